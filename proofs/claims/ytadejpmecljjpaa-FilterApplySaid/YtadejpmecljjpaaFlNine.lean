/- Filter laws anew, part ZA: the six methods in one form. No conditions. -/
import Derived.Test.YtadejpmecljjpaaFlEight
set_option linter.unusedVariables false
set_option linter.unusedSimpArgs false
set_option linter.unusedSectionVars false
namespace Go.Proofs.Ytadejpmecljjpaa
open Go Go.Eng
theorem PureA.imp {P : Program} {f : FuncId} {s s' : List V → Tr O → Option (List Prop × V)} (p : PureA P f s) (h : ∀ args h A u, s' args h = some (A, u) → u.free = true ∧ ((∀ a ∈ A, a) → ∃ B, s args h = some (B, u) ∧ ∀ b ∈ B, b)) : PureA P f s' := by
  refine ⟨p.1, fun args m A u e => ?_⟩
  obtain ⟨h1, h2⟩ := h args m A u e
  refine ⟨h1, fun hA => ?_⟩
  obtain ⟨B, e2, hB⟩ := h2 hA
  exact (p.2 args m B u e2).2 hB
theorem srcSpec_imp {P : Program} {f : FuncId} {S S' : SF} (p : PureA P f (srcSpec S)) (h : ∀ X0 Y0 X1 Y1 lP px k r d v lK ks lC cs X A u, S' X0 Y0 X1 Y1 lP px k r d v lK ks lC cs X = some (A, u) → u.free = true ∧ ((∀ a ∈ A, a) → ∃ B, S X0 Y0 X1 Y1 lP px k r d v lK ks lC cs X = some (B, u) ∧ ∀ b ∈ B, b)) : PureA P f (srcSpec S') := by
  refine PureA.imp p fun args m A u e => ?_
  unfold srcSpec at e
  split at e
  case h_2 => cases e
  split at e
  case h_2 => cases e
  rename_i aP lP px hP
  split at e
  case h_2 => cases e
  rename_i aK lK ks hK
  split at e
  case h_2 => cases e
  rename_i aC lC cs hC
  obtain ⟨h1, h2⟩ := h _ _ _ _ _ _ _ _ _ _ _ _ _ _ _ _ _ e
  refine ⟨h1, fun hA => ?_⟩
  obtain ⟨B, e2, hB⟩ := h2 hA
  refine ⟨B, ?_, hB⟩
  simp only [srcSpec, hP, hK, hC]
  exact e2
def mkV (q : Q4) : V := mkP q.1 q.2.1 q.2.2.1 q.2.2.2
inductive Kd | cv | ton | inv | thr | off | rk
def fOf : Kd → Nat | .cv => 68 | .ton => 69 | .inv => 70 | .thr => 71 | .off => 72 | .rk => 73
def sq (r : Int) : Nat := (2 * r.toNat + 1) * (2 * r.toNat + 1)
section
variable (X0 Y0 X1 : Int) (lP : Nat) (px : List Int) (k r d v : Int) (lK : Nat) (ks : List Int) (lC : Nat) (cs : List Int) (x y : Int)
def cvQ (S : Q4) : Q4 := if roundI S.2.2.2 d = 0 then (0, 0, 0, 0) else (u8w (roundI S.1 S.2.2.2), u8w (roundI S.2.1 S.2.2.2), u8w (roundI S.2.2.1 S.2.2.2), u8w (roundI S.2.2.2 d))
def invQ (i : Int) : Q4 := (invC (pq px i 0), invC (pq px i 1), invC (pq px i 2), u8w (w64 (pq px i 3)))
def tonQ (i : Int) : Q4 := (tonC cs lC (pq px i 0), tonC cs lC (pq px i 1), tonC cs lC (pq px i 2), u8w (w64 (pq px i 3)))
def thrQ (i : Int) : Q4 := if thrB px i v = true then (255, 255, 255, u8w (w64 (pq px i 3))) else (0, 0, 0, u8w (w64 (pq px i 3)))
def pixQ (i : Int) : Q4 := (pq px i 0, pq px i 1, pq px i 2, pq px i 3)
def rkQ (w : Nat → Int) (m : Nat) : Q4 := (u8w ((sortI (rkVal px w 0 m)).getD (rkI k m) 0), u8w ((sortI (rkVal px w 1 m)).getD (rkI k m) 0), u8w ((sortI (rkVal px w 2 m)).getD (rkI k m) 0), u8w ((sortI (rkVal px w 3 m)).getD (rkI k m) 0))
def kdQ : Kd → Q4
  | .cv => cvQ d (cvS ks px (winI X0 Y0 X1 x y r.toNat) (sq r))
  | .ton => tonQ px lC cs (idxE X0 Y0 X1 x y)
  | .inv => invQ px (idxE X0 Y0 X1 x y)
  | .thr => thrQ px v (idxE X0 Y0 X1 x y)
  | .off => pixQ px (offI X0 Y0 X1 x y r v)
  | .rk => rkQ px k (winI X0 Y0 X1 x y r.toNat) (sq r)
def kdOk : Kd → List Prop
  | .cv => [0 ≤ r, WinOk X0 Y0 X1 x y r.toNat lP px, sq r ≤ lK, lK ≤ ks.length]
  | .ton => atA lP px (idxE X0 Y0 X1 x y) ++ lens lC cs
  | .inv => atA lP px (idxE X0 Y0 X1 x y)
  | .thr => atA lP px (idxE X0 Y0 X1 x y)
  | .off => atA lP px (offI X0 Y0 X1 x y r v)
  | .rk => [0 ≤ r, WinOk X0 Y0 X1 x y r.toNat lP px, k = 2 ∨ k = 3 ∨ k = 4]
end
def SKd (kd : Kd) : SF := fun X0 Y0 X1 _ lP px k r d v lK ks lC cs X => match X with
  | [.int .i64 x, .int .i64 y] => some (kdOk X0 Y0 X1 lP px k r v lK ks lC cs x y kd, mkV (kdQ X0 Y0 X1 px k r d v ks lC cs x y kd))
  | _ => none
theorem cvQ_eq (d : Int) (S : Q4) : cvRes d S = mkV (cvQ d S) := by unfold cvRes cvQ; split <;> rfl
theorem thrQ_eq (px : List Int) (i v : Int) : thrV px i v = mkV (thrQ px v i) := by unfold thrV thrQ; split <;> rfl
theorem pKd (hs : Sorts Try.prog 97) : ∀ kd, PureA Try.prog (fOf kd) (srcSpec (SKd kd)) := by
  have key : ∀ (kd : Kd) (S : SF), PureA Try.prog (fOf kd) (srcSpec S) → (∀ X0 Y0 X1 Y1 lP px k r d v lK ks lC cs x y, (∀ a ∈ kdOk X0 Y0 X1 lP px k r v lK ks lC cs x y kd, a) → ∃ B, S X0 Y0 X1 Y1 lP px k r d v lK ks lC cs [.int .i64 x, .int .i64 y] = some (B, mkV (kdQ X0 Y0 X1 px k r d v ks lC cs x y kd)) ∧ ∀ b ∈ B, b) → PureA Try.prog (fOf kd) (srcSpec (SKd kd)) := by
    intro kd S p h
    refine srcSpec_imp p fun X0 Y0 X1 Y1 lP px k r d v lK ks lC cs X A u e => ?_
    unfold SKd at e
    split at e
    · simp only [Option.some.injEq, Prod.mk.injEq] at e; obtain ⟨rfl, rfl⟩ := e
      exact ⟨rfl, h X0 Y0 X1 Y1 lP px k r d v lK ks lC cs _ _⟩
    · cases e
  intro kd
  cases kd with
  | cv =>
    refine key .cv _ pCv fun X0 Y0 X1 Y1 lP px k r d v lK ks lC cs x y hA => ?_
    have h0 : 0 ≤ r := hA (0 ≤ r) (by simp [kdOk])
    obtain ⟨R, rfl⟩ := Int.eq_ofNat_of_zero_le h0
    refine ⟨_, by
      show some (_, cvRes d (cvS ks px (winI X0 Y0 X1 x y R) ((2 * R + 1) * (2 * R + 1)))) = _
      rw [cvQ_eq]; rfl, fun b hb => hA b ?_⟩
    simp only [kdOk, List.mem_cons, List.not_mem_nil, or_false] at hb ⊢
    exact .inr hb
  | ton => exact key .ton _ pTon fun X0 Y0 X1 Y1 lP px k r d v lK ks lC cs x y hA => ⟨_, rfl, hA⟩
  | inv => exact key .inv _ pInv fun X0 Y0 X1 Y1 lP px k r d v lK ks lC cs x y hA => ⟨_, rfl, hA⟩
  | thr => exact key .thr _ pThr fun X0 Y0 X1 Y1 lP px k r d v lK ks lC cs x y hA => ⟨_, by
      show some (_, thrV px (idxE X0 Y0 X1 x y) v) = _
      rw [thrQ_eq]; rfl, hA⟩
  | off => exact key .off _ pOff fun X0 Y0 X1 Y1 lP px k r d v lK ks lC cs x y hA => ⟨_, rfl, hA⟩
  | rk =>
    refine key .rk _ (pRk hs) fun X0 Y0 X1 Y1 lP px k r d v lK ks lC cs x y hA => ?_
    have h0 : 0 ≤ r := hA (0 ≤ r) (by simp [kdOk])
    obtain ⟨R, rfl⟩ := Int.eq_ofNat_of_zero_le h0
    refine ⟨_, rfl, fun b hb => hA b ?_⟩
    simp only [kdOk, List.mem_cons, List.not_mem_nil, or_false] at hb ⊢
    exact .inr hb
def clQ (q : Q4) : Q4 := if q.2.2.2 = 0 then (0, 0, 0, 0) else q
def specCl2 : List V → Option (List Prop × V)
  | [.agg [.int .u8 a, .int .u8 b, .int .u8 c, .int .u8 d]] => some ([], mkV (clQ (a, b, c, d)))
  | _ => none
theorem one_Cl2 : OneW Try.prog 48 (pureW specCl2) := by
  have e : specCl2 = specCl := by
    funext l
    unfold specCl2 specCl
    split
    · rename_i a b c d
      have : mkV (clQ (a, b, c, d)) = cleV a b c d := by
        unfold clQ cleV
        by_cases h : d = 0
        · rw [if_pos h, if_pos h]; rfl
        · rw [if_neg h, if_neg h]; rfl
      rw [this]
    · rename_i h
      split
      · rename_i a b c d
        exact absurd rfl (h a b c d)
      · rfl
  rw [e]; exact one_Cl
noncomputable abbrev WG : CtrW := addW 68 (readW (srcSpec (SKd .cv))) (addW 69 (readW (srcSpec (SKd .ton))) (addW 70 (readW (srcSpec (SKd .inv))) (addW 71 (readW (srcSpec (SKd .thr))) (addW 72 (readW (srcSpec (SKd .off))) (addW 73 (readW (srcSpec (SKd .rk))) (addW 44 (pureW specAd) (addW 45 (pureW specAr) (addW 46 (pureW specIn) (addW 48 (pureW specCl2) (addW 47 (pureW specMe) W5))))))))))
theorem WG_ok (hs : Sorts Try.prog 97) : CtrWOk Try.prog WG := addW_ok (readW_ok (pKd hs .cv)) (addW_ok (readW_ok (pKd hs .ton)) (addW_ok (readW_ok (pKd hs .inv)) (addW_ok (readW_ok (pKd hs .thr)) (addW_ok (readW_ok (pKd hs .off)) (addW_ok (readW_ok (pKd hs .rk)) (addW_ok one_Ad (addW_ok one_Ar (addW_ok one_In (addW_ok one_Cl2 (addW_ok one_Me W5_ok))))))))))
noncomputable abbrev csG : CallS := callX Try.prog WG H0 1000 40
noncomputable abbrev XG (hs : Sorts Try.prog 97) : CX Try.prog := CX.of mo po (WG_ok hs) H0 1000 40
end Go.Proofs.Ytadejpmecljjpaa
namespace Go.Proofs.Ytadejpmecljjpaa
open Go Go.Eng
noncomputable abbrev cdAp : Code := bodyOf Try.f15
noncomputable abbrev tlA : Code := tailN 2 cdAp
noncomputable abbrev lpA : Code := seqL (tailN 2 tlA)
noncomputable abbrev olA : Code := inner (seqR lpA)
noncomputable abbrev obA : Code := inner olA
noncomputable abbrev ibA : Code := inner (seqL (seqR obA))
noncomputable abbrev ilA : Code := inner (seqR ibA)
noncomputable abbrev ixb : Code := inner ilA
noncomputable abbrev enA : Code := seqR (tailN 2 tlA)
def rcV (a b c d : Int) : V := .agg [.int .i64 a, .int .i64 b, .int .i64 c, .int .i64 d]
def imV (X0 Y0 X1 Y1 : Int) (lP cP : Nat) : V := .agg [.int .i64 X0, .int .i64 Y0, .int .i64 X1, .int .i64 Y1, .slc (some (2, 0)) lP cP 4]
def fK (nK nC : Bool) (k r d v : Int) (lK cK zK lC cC zC : Nat) : V := .agg [.int .i64 k, .int .i64 r, slQ nK 0 lK cK zK, .int .i64 d, .int .i64 v, slQ nC 1 lC cC zC]
def bxF (nK nC : Bool) (k r d v : Int) (lK cK zK lC cC zC : Nat) : O := .cells [.int .i64 k, .int .i64 r, slQ nK 0 lK cK zK, .int .i64 d, .int .i64 v, slQ nC 1 lC cC zC]
def bxI (X0 Y0 X1 Y1 : Int) (lP cP : Nat) : O := .cells [.int .i64 X0, .int .i64 Y0, .int .i64 X1, .int .i64 Y1, .slc (some (2, 0)) lP cP 4]
def bx4 (a b c e : Int) : O := .cells [.int .i64 a, .int .i64 b, .int .i64 c, .int .i64 e]
def bxZ : O := .cells [.int .i64 0, .int .i64 0, .int .i64 0, .int .i64 0, .slc none 0 0 0]
def frA0 : List (Nat × V) := [(3, .ptr (some (3, 0))), (4, .ptr (some (4, 0))), (5, .ptr (some (5, 0))), (6, .ptr (some (6, 0))), (7, .int .i64 0)]
def noImg : V := .agg [.int .i64 0, .int .i64 0, .int .i64 0, .int .i64 0, .slc none 0 0 0]
def errV (n : Int) : V := .tup [noImg, .int .i64 n]
def outA (m : Nat) (ot : List Int) (q : Q4) : List Int := (ot.drop 0).take (m * 4) ++ [q.1, q.2.1, q.2.2.1, q.2.2.2]
def slP (f : Bool) (m : Nat) : V := match f with | true => .slc none 0 0 0 | false => .slc (some (6, 0)) m m 4
def nxP (f : Bool) : Nat := match f with | true => 7 | false => 8
def pS (f : Bool) : Nat := match f with | true => 6 | false => 7
def frB (kd : Kd) (f : Bool) : List (Nat × V) := [(5, .ptr (some (3, 0))), (6, .ptr (some (4, 0))), (8, .ptr (some (5, 0))), (9, .ptr (some (pS f, 0))), (10, .fn (.func (fOf kd)) [] [])]
section
variable (kd : Kd) (nK nC : Bool) (X0 Y0 X1 Y1 a b c e : Int) (lP cP : Nat) (k r d v : Int) (lK cK zK lC cC zC : Nat) (ks cs px : List Int)
noncomputable abbrev stAp : St := startSt [fK nK nC k r d v lK cK zK lC cC zC, imV X0 Y0 X1 Y1 lP cP, rcV a b c e] (rH3 nK nC ks cs px) 3
def lsA : List (Nat × O) := rowsR nK nC ks cs px ++ [(3, bxF nK nC k r d v lK cK zK lC cC zC), (4, bxI X0 Y0 X1 Y1 lP cP), (5, bx4 a b c e), (6, bxZ)]
def sA0 : St := stG frA0 (hL (lsA nK nC X0 Y0 X1 Y1 a b c e lP cP k r d v lK cK zK lC cC zC ks cs px)) 7
def srcC : O := .cells [.int .i64 X0, .int .i64 Y0, .int .i64 X1, .int .i64 Y1, .slc (some (2, 0)) lP cP 4, .int .i64 k, .int .i64 r, slQ nK 0 lK cK zK, .int .i64 d, .int .i64 v, slQ nC 1 lC cC zC]
def tailB (f : Bool) (row : O) : List (Nat × O) := match f with | true => [(6, srcC nK nC X0 Y0 X1 Y1 lP cP k r d v lK cK zK lC cC zC)] | false => [(6, row), (7, srcC nK nC X0 Y0 X1 Y1 lP cP k r d v lK cK zK lC cC zC)]
def lsB (f : Bool) (m : Nat) (row : O) : List (Nat × O) := rowsR nK nC ks cs px ++ ([(3, bx4 a b c e), (4, bxZ), (5, .cells [.int .i64 a, .int .i64 b, .int .i64 c, .int .i64 e, slP f m])] ++ tailB nK nC X0 Y0 X1 Y1 lP cP k r d v lK cK zK lC cC zC f row)
def sB0 (f : Bool) (m : Nat) (ot : List Int) : St := stG (frB kd f) (hL (lsB nK nC X0 Y0 X1 Y1 a b c e lP cP k r d v lK cK zK lC cC zC ks cs px f m (.own .u8 ot))) (nxP f)
def sBy (f : Bool) (m : Nat) (ot : List Int) (yy : Int) : St := stG (frB kd f ++ [(11, .int .i64 yy)]) (hL (lsB nK nC X0 Y0 X1 Y1 a b c e lP cP k r d v lK cK zK lC cC zC ks cs px f m (.own .u8 ot))) (nxP f)
def sBx (f : Bool) (m : Nat) (ot : List Int) (yy xx : Int) : St := stG (frB kd f ++ [(11, .int .i64 yy), (12, .int .i64 xx)]) (hL (lsB nK nC X0 Y0 X1 Y1 a b c e lP cP k r d v lK cK zK lC cC zC ks cs px f m (.own .u8 ot))) (nxP f)
def sBr (q : Q4) (yy xx : Int) : St := stG (frB kd false ++ [(11, .int .i64 yy), (12, .int .i64 xx)]) (hL (lsB nK nC X0 Y0 X1 Y1 a b c e lP cP k r d v lK cK zK lC cC zC ks cs px false 1 (.cells [.int .u8 q.1, .int .u8 q.2.1, .int .u8 q.2.2.1, .int .u8 q.2.2.2]))) 8
def apQ (x y : Int) : Q4 := clQ (kdQ X0 Y0 X1 px k r d v (rw' nK ks) (ln nC lC) (rw' nC cs) x y kd)
def apOk (x y : Int) : List Prop := kdOk X0 Y0 X1 lP px k r v (ln nK lK) (rw' nK ks) (ln nC lC) (rw' nC cs) x y kd
def fa4 : List Prop := [ln nK lK ≤ (rw' nK ks).length, ln nK lK ≤ 1000, ln nC lC ≤ (rw' nC cs).length, ln nC lC ≤ 1000]
abbrev vB : Bool := validB k r d v (ln nK lK) (rw' nK ks) (ln nC lC) (rw' nC cs)
abbrev ndQ : Q4 := areaQ (vB nK nC k r d v lK lC ks cs) k r v a b c e (-1)
def pBq (x y : Bool) : Prop := V.bool x = V.bool y
theorem ap_e0 : ∃ L, RunIs Try.prog csG [(16, .give (.bool true))] 1000 3 Try.f15 [] cdAp (stAp nK nC X0 Y0 X1 Y1 a b c e lP cP k r d v lK cK zK lC cC zC ks cs px) L
    [([], fa4 nK nC lK lC ks cs ++ [pBq (!vB nK nC k r d v lK lC ks cs) true], .ret (errV 1) (hL (rowsR nK nC ks cs px ++ [])) 3)] := by
  refine ⟨[], ?_⟩
  unfold RunIs; cases nK <;> cases nC <;> kernel_rfl
theorem ap_e1 : ∃ L, RunIs Try.prog csG [(16, .give (.bool false)), (21, .give (.bool true))] 1000 3 Try.f15 [] cdAp (stAp nK nC X0 Y0 X1 Y1 a b c e lP cP k r d v lK cK zK lC cC zC ks cs px) L
    [([], fa4 nK nC lK lC ks cs ++ [pBq (!vB nK nC k r d v lK lC ks cs) false, pBq (!admB X0 Y0 X1 Y1) true], .ret (errV 1) (hL (rowsR nK nC ks cs px ++ [])) 3)] := by
  refine ⟨[], ?_⟩
  unfold RunIs; cases nK <;> cases nC <;> kernel_rfl
theorem ap_e2 : ∃ L, RunIs Try.prog csG [(16, .give (.bool false)), (21, .give (.bool false)), (30, .give (.bool true))] 1000 3 Try.f15 [] cdAp (stAp nK nC X0 Y0 X1 Y1 a b c e lP cP k r d v lK cK zK lC cC zC ks cs px) L
    [([], fa4 nK nC lK lC ks cs ++ [pBq (!vB nK nC k r d v lK lC ks cs) false, pBq (!admB X0 Y0 X1 Y1) false, pBq ((lP : Int) != areI X0 Y0 X1 Y1) true], .ret (errV 1) (hL (rowsR nK nC ks cs px ++ [])) 3)] := by
  refine ⟨[.int .i64 lP, .slc (some (2, 0)) lP cP 4], ?_⟩
  unfold RunIs; cases nK <;> cases nC <;> kernel_rfl
theorem ap_e3 : ∃ L, RunIs Try.prog csG [(16, .give (.bool false)), (21, .give (.bool false)), (30, .give (.bool false)), (35, .give (.bool true))] 1000 3 Try.f15 [] cdAp (stAp nK nC X0 Y0 X1 Y1 a b c e lP cP k r d v lK cK zK lC cC zC ks cs px) L
    [([], fa4 nK nC lK lC ks cs ++ [pBq (!vB nK nC k r d v lK lC ks cs) false, pBq (!admB X0 Y0 X1 Y1) false, pBq ((lP : Int) != areI X0 Y0 X1 Y1) false, pBq (!admB a b c e) true], .ret (errV 1) (hL (rowsR nK nC ks cs px ++ [])) 3)] := by
  refine ⟨[.int .i64 lP, .slc (some (2, 0)) lP cP 4], ?_⟩
  unfold RunIs; cases nK <;> cases nC <;> kernel_rfl
theorem ap_e4 : ∃ L, RunIs Try.prog csG [(16, .give (.bool false)), (21, .give (.bool false)), (30, .give (.bool false)), (35, .give (.bool false)), (41, .give (.bool true))] 1000 3 Try.f15 [] cdAp (stAp nK nC X0 Y0 X1 Y1 a b c e lP cP k r d v lK cK zK lC cC zC ks cs px) L
    [([], fa4 nK nC lK lC ks cs ++ [pBq (!vB nK nC k r d v lK lC ks cs) false, pBq (!admB X0 Y0 X1 Y1) false, pBq ((lP : Int) != areI X0 Y0 X1 Y1) false, pBq (!admB a b c e) false, pBq (decide (areI a b c e > 262144)) true], .ret (errV 45) (hL (rowsR nK nC ks cs px ++ [])) 3)] := by
  refine ⟨[.int .i64 lP, .slc (some (2, 0)) lP cP 4], ?_⟩
  unfold RunIs; cases nK <;> cases nC <;> kernel_rfl
theorem ap_e5 : ∃ L, RunIs Try.prog csG [(16, .give (.bool false)), (21, .give (.bool false)), (30, .give (.bool false)), (35, .give (.bool false)), (41, .give (.bool false)), (50, .give (.bool true))] 1000 3 Try.f15 [] cdAp (stAp nK nC X0 Y0 X1 Y1 a b c e lP cP k r d v lK cK zK lC cC zC ks cs px) L
    [([], fa4 nK nC lK lC ks cs ++ ([pBq (!vB nK nC k r d v lK lC ks cs) false, pBq (!admB X0 Y0 X1 Y1) false, pBq ((lP : Int) != areI X0 Y0 X1 Y1) false, pBq (!admB a b c e) false, pBq (decide (areI a b c e > 262144)) false] ++ (fa4 nK nC lK lC ks cs ++ [pBq (!insB (ndQ nK nC a b c e k r d v lK lC ks cs).1 (ndQ nK nC a b c e k r d v lK lC ks cs).2.1 (ndQ nK nC a b c e k r d v lK lC ks cs).2.2.1 (ndQ nK nC a b c e k r d v lK lC ks cs).2.2.2 X0 Y0 X1 Y1) true])), .ret (errV 1) (hL (rowsR nK nC ks cs px ++ [])) 3)] := by
  refine ⟨[.int .i64 lP, .slc (some (2, 0)) lP cP 4, rcV X0 Y0 X1 Y1], ?_⟩
  unfold RunIs; cases nK <;> cases nC <;> kernel_rfl
theorem ap_u1 : ∃ L, RunIs Try.prog csG [(16, .give (.bool false)), (21, .give (.bool false)), (30, .give (.bool false)), (35, .give (.bool false)), (41, .give (.bool false)), (50, .give (.bool false))] 1000 3 Try.f15 [3, 4, 5, 6, 7] (headN 2 cdAp) (stAp nK nC X0 Y0 X1 Y1 a b c e lP cP k r d v lK cK zK lC cC zC ks cs px) L
    [([], fa4 nK nC lK lC ks cs ++ ([pBq (!vB nK nC k r d v lK lC ks cs) false, pBq (!admB X0 Y0 X1 Y1) false, pBq ((lP : Int) != areI X0 Y0 X1 Y1) false, pBq (!admB a b c e) false, pBq (decide (areI a b c e > 262144)) false] ++ (fa4 nK nC lK lC ks cs ++ [pBq (!insB (ndQ nK nC a b c e k r d v lK lC ks cs).1 (ndQ nK nC a b c e k r d v lK lC ks cs).2.1 (ndQ nK nC a b c e k r d v lK lC ks cs).2.2.1 (ndQ nK nC a b c e k r d v lK lC ks cs).2.2.2 X0 Y0 X1 Y1) false])), .to .normal (sA0 nK nC X0 Y0 X1 Y1 a b c e lP cP k r d v lK cK zK lC cC zC ks cs px))] := by
  refine ⟨[.int .i64 lP, .slc (some (2, 0)) lP cP 4, rcV X0 Y0 X1 Y1], ?_⟩
  unfold RunIs; cases nK <;> cases nC <;> kernel_rfl
theorem ap_u2 (hk : metN k = fOf kd) : ∃ L, RunIs Try.prog csG [] 1000 3 Try.f15 [5, 6, 8, 9, 10] (headN 2 tlA) (sA0 nK nC X0 Y0 X1 Y1 a b c e lP cP k r d v lK cK zK lC cC zC ks cs px) L
    [([], [], .to .normal (sB0 kd nK nC X0 Y0 X1 Y1 a b c e lP cP k r d v lK cK zK lC cC zC ks cs px true 0 []))] := by
  have e : sB0 kd nK nC X0 Y0 X1 Y1 a b c e lP cP k r d v lK cK zK lC cC zC ks cs px true 0 [] = stG [(5, .ptr (some (3, 0))), (6, .ptr (some (4, 0))), (8, .ptr (some (5, 0))), (9, .ptr (some (6, 0))), (10, .fn (.func (metN k)) [] [])] (hL (lsB nK nC X0 Y0 X1 Y1 a b c e lP cP k r d v lK cK zK lC cC zC ks cs px true 0 (.own .u8 []))) 7 := by rw [hk]; rfl
  rw [e]
  refine ⟨[fK nK nC k r d v lK cK zK lC cC zC, imV X0 Y0 X1 Y1 lP cP], ?_⟩
  unfold RunIs; cases nK <;> cases nC <;> kernel_rfl
end
section
variable (nK nC : Bool) (X0 Y0 X1 Y1 a b c e : Int) (lP cP : Nat) (k r d v : Int) (lK cK zK lC cC zC : Nat) (ks cs px : List Int)
theorem ap_y0_cv_t  : RunIs Try.prog csG [] 1000 3 Try.f15 [5, 6, 8, 9, 10, 11] (seqL lpA) (sB0 .cv nK nC X0 Y0 X1 Y1 a b c e lP cP k r d v lK cK zK lC cC zC ks cs px true 0 []) [] [([], [], .to .normal (sBy .cv nK nC X0 Y0 X1 Y1 a b c e lP cP k r d v lK cK zK lC cC zC ks cs px true 0 [] b))] := by
  unfold RunIs; cases nK <;> cases nC <;> kernel_rfl
theorem ap_y0_ton_t  : RunIs Try.prog csG [] 1000 3 Try.f15 [5, 6, 8, 9, 10, 11] (seqL lpA) (sB0 .ton nK nC X0 Y0 X1 Y1 a b c e lP cP k r d v lK cK zK lC cC zC ks cs px true 0 []) [] [([], [], .to .normal (sBy .ton nK nC X0 Y0 X1 Y1 a b c e lP cP k r d v lK cK zK lC cC zC ks cs px true 0 [] b))] := by
  unfold RunIs; cases nK <;> cases nC <;> kernel_rfl
theorem ap_y0_inv_t  : RunIs Try.prog csG [] 1000 3 Try.f15 [5, 6, 8, 9, 10, 11] (seqL lpA) (sB0 .inv nK nC X0 Y0 X1 Y1 a b c e lP cP k r d v lK cK zK lC cC zC ks cs px true 0 []) [] [([], [], .to .normal (sBy .inv nK nC X0 Y0 X1 Y1 a b c e lP cP k r d v lK cK zK lC cC zC ks cs px true 0 [] b))] := by
  unfold RunIs; cases nK <;> cases nC <;> kernel_rfl
theorem ap_y0_thr_t  : RunIs Try.prog csG [] 1000 3 Try.f15 [5, 6, 8, 9, 10, 11] (seqL lpA) (sB0 .thr nK nC X0 Y0 X1 Y1 a b c e lP cP k r d v lK cK zK lC cC zC ks cs px true 0 []) [] [([], [], .to .normal (sBy .thr nK nC X0 Y0 X1 Y1 a b c e lP cP k r d v lK cK zK lC cC zC ks cs px true 0 [] b))] := by
  unfold RunIs; cases nK <;> cases nC <;> kernel_rfl
theorem ap_y0_off_t  : RunIs Try.prog csG [] 1000 3 Try.f15 [5, 6, 8, 9, 10, 11] (seqL lpA) (sB0 .off nK nC X0 Y0 X1 Y1 a b c e lP cP k r d v lK cK zK lC cC zC ks cs px true 0 []) [] [([], [], .to .normal (sBy .off nK nC X0 Y0 X1 Y1 a b c e lP cP k r d v lK cK zK lC cC zC ks cs px true 0 [] b))] := by
  unfold RunIs; cases nK <;> cases nC <;> kernel_rfl
theorem ap_y0_rk_t  : RunIs Try.prog csG [] 1000 3 Try.f15 [5, 6, 8, 9, 10, 11] (seqL lpA) (sB0 .rk nK nC X0 Y0 X1 Y1 a b c e lP cP k r d v lK cK zK lC cC zC ks cs px true 0 []) [] [([], [], .to .normal (sBy .rk nK nC X0 Y0 X1 Y1 a b c e lP cP k r d v lK cK zK lC cC zC ks cs px true 0 [] b))] := by
  unfold RunIs; cases nK <;> cases nC <;> kernel_rfl
theorem ap_y0 (kd : Kd)  : RunIs Try.prog csG [] 1000 3 Try.f15 [5, 6, 8, 9, 10, 11] (seqL lpA) (sB0 kd nK nC X0 Y0 X1 Y1 a b c e lP cP k r d v lK cK zK lC cC zC ks cs px true 0 []) [] [([], [], .to .normal (sBy kd nK nC X0 Y0 X1 Y1 a b c e lP cP k r d v lK cK zK lC cC zC ks cs px true 0 [] b))] := by
  cases kd
  · exact ap_y0_cv_t nK nC X0 Y0 X1 Y1 a b c e lP cP k r d v lK cK zK lC cC zC ks cs px 
  · exact ap_y0_ton_t nK nC X0 Y0 X1 Y1 a b c e lP cP k r d v lK cK zK lC cC zC ks cs px 
  · exact ap_y0_inv_t nK nC X0 Y0 X1 Y1 a b c e lP cP k r d v lK cK zK lC cC zC ks cs px 
  · exact ap_y0_thr_t nK nC X0 Y0 X1 Y1 a b c e lP cP k r d v lK cK zK lC cC zC ks cs px 
  · exact ap_y0_off_t nK nC X0 Y0 X1 Y1 a b c e lP cP k r d v lK cK zK lC cC zC ks cs px 
  · exact ap_y0_rk_t nK nC X0 Y0 X1 Y1 a b c e lP cP k r d v lK cK zK lC cC zC ks cs px 
theorem ap_y1_cv_t (m : Nat) (ot : List Int) (yy : Int) : RunIs Try.prog csG [(65, .split)] 1000 3 Try.f15 [5, 6, 8, 9, 10, 11] (seqL obA) (sBy .cv nK nC X0 Y0 X1 Y1 a b c e lP cP k r d v lK cK zK lC cC zC ks cs px true m ot yy) [] [([(decide (yy < e), true)], [], .to .normal (sBy .cv nK nC X0 Y0 X1 Y1 a b c e lP cP k r d v lK cK zK lC cC zC ks cs px true m ot yy)), ([(decide (yy < e), false)], [], .to (.exit 1) (sBy .cv nK nC X0 Y0 X1 Y1 a b c e lP cP k r d v lK cK zK lC cC zC ks cs px true m ot yy))] := by
  unfold RunIs; cases nK <;> cases nC <;> kernel_rfl
theorem ap_y1_cv_f (m : Nat) (ot : List Int) (yy : Int) : RunIs Try.prog csG [(65, .split)] 1000 3 Try.f15 [5, 6, 8, 9, 10, 11] (seqL obA) (sBy .cv nK nC X0 Y0 X1 Y1 a b c e lP cP k r d v lK cK zK lC cC zC ks cs px false m ot yy) [] [([(decide (yy < e), true)], [], .to .normal (sBy .cv nK nC X0 Y0 X1 Y1 a b c e lP cP k r d v lK cK zK lC cC zC ks cs px false m ot yy)), ([(decide (yy < e), false)], [], .to (.exit 1) (sBy .cv nK nC X0 Y0 X1 Y1 a b c e lP cP k r d v lK cK zK lC cC zC ks cs px false m ot yy))] := by
  unfold RunIs; cases nK <;> cases nC <;> kernel_rfl
theorem ap_y1_ton_t (m : Nat) (ot : List Int) (yy : Int) : RunIs Try.prog csG [(65, .split)] 1000 3 Try.f15 [5, 6, 8, 9, 10, 11] (seqL obA) (sBy .ton nK nC X0 Y0 X1 Y1 a b c e lP cP k r d v lK cK zK lC cC zC ks cs px true m ot yy) [] [([(decide (yy < e), true)], [], .to .normal (sBy .ton nK nC X0 Y0 X1 Y1 a b c e lP cP k r d v lK cK zK lC cC zC ks cs px true m ot yy)), ([(decide (yy < e), false)], [], .to (.exit 1) (sBy .ton nK nC X0 Y0 X1 Y1 a b c e lP cP k r d v lK cK zK lC cC zC ks cs px true m ot yy))] := by
  unfold RunIs; cases nK <;> cases nC <;> kernel_rfl
theorem ap_y1_ton_f (m : Nat) (ot : List Int) (yy : Int) : RunIs Try.prog csG [(65, .split)] 1000 3 Try.f15 [5, 6, 8, 9, 10, 11] (seqL obA) (sBy .ton nK nC X0 Y0 X1 Y1 a b c e lP cP k r d v lK cK zK lC cC zC ks cs px false m ot yy) [] [([(decide (yy < e), true)], [], .to .normal (sBy .ton nK nC X0 Y0 X1 Y1 a b c e lP cP k r d v lK cK zK lC cC zC ks cs px false m ot yy)), ([(decide (yy < e), false)], [], .to (.exit 1) (sBy .ton nK nC X0 Y0 X1 Y1 a b c e lP cP k r d v lK cK zK lC cC zC ks cs px false m ot yy))] := by
  unfold RunIs; cases nK <;> cases nC <;> kernel_rfl
theorem ap_y1_inv_t (m : Nat) (ot : List Int) (yy : Int) : RunIs Try.prog csG [(65, .split)] 1000 3 Try.f15 [5, 6, 8, 9, 10, 11] (seqL obA) (sBy .inv nK nC X0 Y0 X1 Y1 a b c e lP cP k r d v lK cK zK lC cC zC ks cs px true m ot yy) [] [([(decide (yy < e), true)], [], .to .normal (sBy .inv nK nC X0 Y0 X1 Y1 a b c e lP cP k r d v lK cK zK lC cC zC ks cs px true m ot yy)), ([(decide (yy < e), false)], [], .to (.exit 1) (sBy .inv nK nC X0 Y0 X1 Y1 a b c e lP cP k r d v lK cK zK lC cC zC ks cs px true m ot yy))] := by
  unfold RunIs; cases nK <;> cases nC <;> kernel_rfl
theorem ap_y1_inv_f (m : Nat) (ot : List Int) (yy : Int) : RunIs Try.prog csG [(65, .split)] 1000 3 Try.f15 [5, 6, 8, 9, 10, 11] (seqL obA) (sBy .inv nK nC X0 Y0 X1 Y1 a b c e lP cP k r d v lK cK zK lC cC zC ks cs px false m ot yy) [] [([(decide (yy < e), true)], [], .to .normal (sBy .inv nK nC X0 Y0 X1 Y1 a b c e lP cP k r d v lK cK zK lC cC zC ks cs px false m ot yy)), ([(decide (yy < e), false)], [], .to (.exit 1) (sBy .inv nK nC X0 Y0 X1 Y1 a b c e lP cP k r d v lK cK zK lC cC zC ks cs px false m ot yy))] := by
  unfold RunIs; cases nK <;> cases nC <;> kernel_rfl
theorem ap_y1_thr_t (m : Nat) (ot : List Int) (yy : Int) : RunIs Try.prog csG [(65, .split)] 1000 3 Try.f15 [5, 6, 8, 9, 10, 11] (seqL obA) (sBy .thr nK nC X0 Y0 X1 Y1 a b c e lP cP k r d v lK cK zK lC cC zC ks cs px true m ot yy) [] [([(decide (yy < e), true)], [], .to .normal (sBy .thr nK nC X0 Y0 X1 Y1 a b c e lP cP k r d v lK cK zK lC cC zC ks cs px true m ot yy)), ([(decide (yy < e), false)], [], .to (.exit 1) (sBy .thr nK nC X0 Y0 X1 Y1 a b c e lP cP k r d v lK cK zK lC cC zC ks cs px true m ot yy))] := by
  unfold RunIs; cases nK <;> cases nC <;> kernel_rfl
theorem ap_y1_thr_f (m : Nat) (ot : List Int) (yy : Int) : RunIs Try.prog csG [(65, .split)] 1000 3 Try.f15 [5, 6, 8, 9, 10, 11] (seqL obA) (sBy .thr nK nC X0 Y0 X1 Y1 a b c e lP cP k r d v lK cK zK lC cC zC ks cs px false m ot yy) [] [([(decide (yy < e), true)], [], .to .normal (sBy .thr nK nC X0 Y0 X1 Y1 a b c e lP cP k r d v lK cK zK lC cC zC ks cs px false m ot yy)), ([(decide (yy < e), false)], [], .to (.exit 1) (sBy .thr nK nC X0 Y0 X1 Y1 a b c e lP cP k r d v lK cK zK lC cC zC ks cs px false m ot yy))] := by
  unfold RunIs; cases nK <;> cases nC <;> kernel_rfl
theorem ap_y1_off_t (m : Nat) (ot : List Int) (yy : Int) : RunIs Try.prog csG [(65, .split)] 1000 3 Try.f15 [5, 6, 8, 9, 10, 11] (seqL obA) (sBy .off nK nC X0 Y0 X1 Y1 a b c e lP cP k r d v lK cK zK lC cC zC ks cs px true m ot yy) [] [([(decide (yy < e), true)], [], .to .normal (sBy .off nK nC X0 Y0 X1 Y1 a b c e lP cP k r d v lK cK zK lC cC zC ks cs px true m ot yy)), ([(decide (yy < e), false)], [], .to (.exit 1) (sBy .off nK nC X0 Y0 X1 Y1 a b c e lP cP k r d v lK cK zK lC cC zC ks cs px true m ot yy))] := by
  unfold RunIs; cases nK <;> cases nC <;> kernel_rfl
theorem ap_y1_off_f (m : Nat) (ot : List Int) (yy : Int) : RunIs Try.prog csG [(65, .split)] 1000 3 Try.f15 [5, 6, 8, 9, 10, 11] (seqL obA) (sBy .off nK nC X0 Y0 X1 Y1 a b c e lP cP k r d v lK cK zK lC cC zC ks cs px false m ot yy) [] [([(decide (yy < e), true)], [], .to .normal (sBy .off nK nC X0 Y0 X1 Y1 a b c e lP cP k r d v lK cK zK lC cC zC ks cs px false m ot yy)), ([(decide (yy < e), false)], [], .to (.exit 1) (sBy .off nK nC X0 Y0 X1 Y1 a b c e lP cP k r d v lK cK zK lC cC zC ks cs px false m ot yy))] := by
  unfold RunIs; cases nK <;> cases nC <;> kernel_rfl
theorem ap_y1_rk_t (m : Nat) (ot : List Int) (yy : Int) : RunIs Try.prog csG [(65, .split)] 1000 3 Try.f15 [5, 6, 8, 9, 10, 11] (seqL obA) (sBy .rk nK nC X0 Y0 X1 Y1 a b c e lP cP k r d v lK cK zK lC cC zC ks cs px true m ot yy) [] [([(decide (yy < e), true)], [], .to .normal (sBy .rk nK nC X0 Y0 X1 Y1 a b c e lP cP k r d v lK cK zK lC cC zC ks cs px true m ot yy)), ([(decide (yy < e), false)], [], .to (.exit 1) (sBy .rk nK nC X0 Y0 X1 Y1 a b c e lP cP k r d v lK cK zK lC cC zC ks cs px true m ot yy))] := by
  unfold RunIs; cases nK <;> cases nC <;> kernel_rfl
theorem ap_y1_rk_f (m : Nat) (ot : List Int) (yy : Int) : RunIs Try.prog csG [(65, .split)] 1000 3 Try.f15 [5, 6, 8, 9, 10, 11] (seqL obA) (sBy .rk nK nC X0 Y0 X1 Y1 a b c e lP cP k r d v lK cK zK lC cC zC ks cs px false m ot yy) [] [([(decide (yy < e), true)], [], .to .normal (sBy .rk nK nC X0 Y0 X1 Y1 a b c e lP cP k r d v lK cK zK lC cC zC ks cs px false m ot yy)), ([(decide (yy < e), false)], [], .to (.exit 1) (sBy .rk nK nC X0 Y0 X1 Y1 a b c e lP cP k r d v lK cK zK lC cC zC ks cs px false m ot yy))] := by
  unfold RunIs; cases nK <;> cases nC <;> kernel_rfl
theorem ap_y1 (kd : Kd) (f : Bool) (m : Nat) (ot : List Int) (yy : Int) : RunIs Try.prog csG [(65, .split)] 1000 3 Try.f15 [5, 6, 8, 9, 10, 11] (seqL obA) (sBy kd nK nC X0 Y0 X1 Y1 a b c e lP cP k r d v lK cK zK lC cC zC ks cs px f m ot yy) [] [([(decide (yy < e), true)], [], .to .normal (sBy kd nK nC X0 Y0 X1 Y1 a b c e lP cP k r d v lK cK zK lC cC zC ks cs px f m ot yy)), ([(decide (yy < e), false)], [], .to (.exit 1) (sBy kd nK nC X0 Y0 X1 Y1 a b c e lP cP k r d v lK cK zK lC cC zC ks cs px f m ot yy))] := by
  cases kd <;> cases f
  · exact ap_y1_cv_f nK nC X0 Y0 X1 Y1 a b c e lP cP k r d v lK cK zK lC cC zC ks cs px m ot yy
  · exact ap_y1_cv_t nK nC X0 Y0 X1 Y1 a b c e lP cP k r d v lK cK zK lC cC zC ks cs px m ot yy
  · exact ap_y1_ton_f nK nC X0 Y0 X1 Y1 a b c e lP cP k r d v lK cK zK lC cC zC ks cs px m ot yy
  · exact ap_y1_ton_t nK nC X0 Y0 X1 Y1 a b c e lP cP k r d v lK cK zK lC cC zC ks cs px m ot yy
  · exact ap_y1_inv_f nK nC X0 Y0 X1 Y1 a b c e lP cP k r d v lK cK zK lC cC zC ks cs px m ot yy
  · exact ap_y1_inv_t nK nC X0 Y0 X1 Y1 a b c e lP cP k r d v lK cK zK lC cC zC ks cs px m ot yy
  · exact ap_y1_thr_f nK nC X0 Y0 X1 Y1 a b c e lP cP k r d v lK cK zK lC cC zC ks cs px m ot yy
  · exact ap_y1_thr_t nK nC X0 Y0 X1 Y1 a b c e lP cP k r d v lK cK zK lC cC zC ks cs px m ot yy
  · exact ap_y1_off_f nK nC X0 Y0 X1 Y1 a b c e lP cP k r d v lK cK zK lC cC zC ks cs px m ot yy
  · exact ap_y1_off_t nK nC X0 Y0 X1 Y1 a b c e lP cP k r d v lK cK zK lC cC zC ks cs px m ot yy
  · exact ap_y1_rk_f nK nC X0 Y0 X1 Y1 a b c e lP cP k r d v lK cK zK lC cC zC ks cs px m ot yy
  · exact ap_y1_rk_t nK nC X0 Y0 X1 Y1 a b c e lP cP k r d v lK cK zK lC cC zC ks cs px m ot yy
theorem ap_y2_cv_t (m : Nat) (ot : List Int) (yy : Int) : RunIs Try.prog csG [] 1000 3 Try.f15 [5, 6, 8, 9, 10, 11, 12] (seqL ibA) (sBy .cv nK nC X0 Y0 X1 Y1 a b c e lP cP k r d v lK cK zK lC cC zC ks cs px true m ot yy) [] [([], [], .to .normal (sBx .cv nK nC X0 Y0 X1 Y1 a b c e lP cP k r d v lK cK zK lC cC zC ks cs px true m ot yy a))] := by
  unfold RunIs; cases nK <;> cases nC <;> kernel_rfl
theorem ap_y2_cv_f (m : Nat) (ot : List Int) (yy : Int) : RunIs Try.prog csG [] 1000 3 Try.f15 [5, 6, 8, 9, 10, 11, 12] (seqL ibA) (sBy .cv nK nC X0 Y0 X1 Y1 a b c e lP cP k r d v lK cK zK lC cC zC ks cs px false m ot yy) [] [([], [], .to .normal (sBx .cv nK nC X0 Y0 X1 Y1 a b c e lP cP k r d v lK cK zK lC cC zC ks cs px false m ot yy a))] := by
  unfold RunIs; cases nK <;> cases nC <;> kernel_rfl
theorem ap_y2_ton_t (m : Nat) (ot : List Int) (yy : Int) : RunIs Try.prog csG [] 1000 3 Try.f15 [5, 6, 8, 9, 10, 11, 12] (seqL ibA) (sBy .ton nK nC X0 Y0 X1 Y1 a b c e lP cP k r d v lK cK zK lC cC zC ks cs px true m ot yy) [] [([], [], .to .normal (sBx .ton nK nC X0 Y0 X1 Y1 a b c e lP cP k r d v lK cK zK lC cC zC ks cs px true m ot yy a))] := by
  unfold RunIs; cases nK <;> cases nC <;> kernel_rfl
theorem ap_y2_ton_f (m : Nat) (ot : List Int) (yy : Int) : RunIs Try.prog csG [] 1000 3 Try.f15 [5, 6, 8, 9, 10, 11, 12] (seqL ibA) (sBy .ton nK nC X0 Y0 X1 Y1 a b c e lP cP k r d v lK cK zK lC cC zC ks cs px false m ot yy) [] [([], [], .to .normal (sBx .ton nK nC X0 Y0 X1 Y1 a b c e lP cP k r d v lK cK zK lC cC zC ks cs px false m ot yy a))] := by
  unfold RunIs; cases nK <;> cases nC <;> kernel_rfl
theorem ap_y2_inv_t (m : Nat) (ot : List Int) (yy : Int) : RunIs Try.prog csG [] 1000 3 Try.f15 [5, 6, 8, 9, 10, 11, 12] (seqL ibA) (sBy .inv nK nC X0 Y0 X1 Y1 a b c e lP cP k r d v lK cK zK lC cC zC ks cs px true m ot yy) [] [([], [], .to .normal (sBx .inv nK nC X0 Y0 X1 Y1 a b c e lP cP k r d v lK cK zK lC cC zC ks cs px true m ot yy a))] := by
  unfold RunIs; cases nK <;> cases nC <;> kernel_rfl
theorem ap_y2_inv_f (m : Nat) (ot : List Int) (yy : Int) : RunIs Try.prog csG [] 1000 3 Try.f15 [5, 6, 8, 9, 10, 11, 12] (seqL ibA) (sBy .inv nK nC X0 Y0 X1 Y1 a b c e lP cP k r d v lK cK zK lC cC zC ks cs px false m ot yy) [] [([], [], .to .normal (sBx .inv nK nC X0 Y0 X1 Y1 a b c e lP cP k r d v lK cK zK lC cC zC ks cs px false m ot yy a))] := by
  unfold RunIs; cases nK <;> cases nC <;> kernel_rfl
theorem ap_y2_thr_t (m : Nat) (ot : List Int) (yy : Int) : RunIs Try.prog csG [] 1000 3 Try.f15 [5, 6, 8, 9, 10, 11, 12] (seqL ibA) (sBy .thr nK nC X0 Y0 X1 Y1 a b c e lP cP k r d v lK cK zK lC cC zC ks cs px true m ot yy) [] [([], [], .to .normal (sBx .thr nK nC X0 Y0 X1 Y1 a b c e lP cP k r d v lK cK zK lC cC zC ks cs px true m ot yy a))] := by
  unfold RunIs; cases nK <;> cases nC <;> kernel_rfl
theorem ap_y2_thr_f (m : Nat) (ot : List Int) (yy : Int) : RunIs Try.prog csG [] 1000 3 Try.f15 [5, 6, 8, 9, 10, 11, 12] (seqL ibA) (sBy .thr nK nC X0 Y0 X1 Y1 a b c e lP cP k r d v lK cK zK lC cC zC ks cs px false m ot yy) [] [([], [], .to .normal (sBx .thr nK nC X0 Y0 X1 Y1 a b c e lP cP k r d v lK cK zK lC cC zC ks cs px false m ot yy a))] := by
  unfold RunIs; cases nK <;> cases nC <;> kernel_rfl
theorem ap_y2_off_t (m : Nat) (ot : List Int) (yy : Int) : RunIs Try.prog csG [] 1000 3 Try.f15 [5, 6, 8, 9, 10, 11, 12] (seqL ibA) (sBy .off nK nC X0 Y0 X1 Y1 a b c e lP cP k r d v lK cK zK lC cC zC ks cs px true m ot yy) [] [([], [], .to .normal (sBx .off nK nC X0 Y0 X1 Y1 a b c e lP cP k r d v lK cK zK lC cC zC ks cs px true m ot yy a))] := by
  unfold RunIs; cases nK <;> cases nC <;> kernel_rfl
theorem ap_y2_off_f (m : Nat) (ot : List Int) (yy : Int) : RunIs Try.prog csG [] 1000 3 Try.f15 [5, 6, 8, 9, 10, 11, 12] (seqL ibA) (sBy .off nK nC X0 Y0 X1 Y1 a b c e lP cP k r d v lK cK zK lC cC zC ks cs px false m ot yy) [] [([], [], .to .normal (sBx .off nK nC X0 Y0 X1 Y1 a b c e lP cP k r d v lK cK zK lC cC zC ks cs px false m ot yy a))] := by
  unfold RunIs; cases nK <;> cases nC <;> kernel_rfl
theorem ap_y2_rk_t (m : Nat) (ot : List Int) (yy : Int) : RunIs Try.prog csG [] 1000 3 Try.f15 [5, 6, 8, 9, 10, 11, 12] (seqL ibA) (sBy .rk nK nC X0 Y0 X1 Y1 a b c e lP cP k r d v lK cK zK lC cC zC ks cs px true m ot yy) [] [([], [], .to .normal (sBx .rk nK nC X0 Y0 X1 Y1 a b c e lP cP k r d v lK cK zK lC cC zC ks cs px true m ot yy a))] := by
  unfold RunIs; cases nK <;> cases nC <;> kernel_rfl
theorem ap_y2_rk_f (m : Nat) (ot : List Int) (yy : Int) : RunIs Try.prog csG [] 1000 3 Try.f15 [5, 6, 8, 9, 10, 11, 12] (seqL ibA) (sBy .rk nK nC X0 Y0 X1 Y1 a b c e lP cP k r d v lK cK zK lC cC zC ks cs px false m ot yy) [] [([], [], .to .normal (sBx .rk nK nC X0 Y0 X1 Y1 a b c e lP cP k r d v lK cK zK lC cC zC ks cs px false m ot yy a))] := by
  unfold RunIs; cases nK <;> cases nC <;> kernel_rfl
theorem ap_y2 (kd : Kd) (f : Bool) (m : Nat) (ot : List Int) (yy : Int) : RunIs Try.prog csG [] 1000 3 Try.f15 [5, 6, 8, 9, 10, 11, 12] (seqL ibA) (sBy kd nK nC X0 Y0 X1 Y1 a b c e lP cP k r d v lK cK zK lC cC zC ks cs px f m ot yy) [] [([], [], .to .normal (sBx kd nK nC X0 Y0 X1 Y1 a b c e lP cP k r d v lK cK zK lC cC zC ks cs px f m ot yy a))] := by
  cases kd <;> cases f
  · exact ap_y2_cv_f nK nC X0 Y0 X1 Y1 a b c e lP cP k r d v lK cK zK lC cC zC ks cs px m ot yy
  · exact ap_y2_cv_t nK nC X0 Y0 X1 Y1 a b c e lP cP k r d v lK cK zK lC cC zC ks cs px m ot yy
  · exact ap_y2_ton_f nK nC X0 Y0 X1 Y1 a b c e lP cP k r d v lK cK zK lC cC zC ks cs px m ot yy
  · exact ap_y2_ton_t nK nC X0 Y0 X1 Y1 a b c e lP cP k r d v lK cK zK lC cC zC ks cs px m ot yy
  · exact ap_y2_inv_f nK nC X0 Y0 X1 Y1 a b c e lP cP k r d v lK cK zK lC cC zC ks cs px m ot yy
  · exact ap_y2_inv_t nK nC X0 Y0 X1 Y1 a b c e lP cP k r d v lK cK zK lC cC zC ks cs px m ot yy
  · exact ap_y2_thr_f nK nC X0 Y0 X1 Y1 a b c e lP cP k r d v lK cK zK lC cC zC ks cs px m ot yy
  · exact ap_y2_thr_t nK nC X0 Y0 X1 Y1 a b c e lP cP k r d v lK cK zK lC cC zC ks cs px m ot yy
  · exact ap_y2_off_f nK nC X0 Y0 X1 Y1 a b c e lP cP k r d v lK cK zK lC cC zC ks cs px m ot yy
  · exact ap_y2_off_t nK nC X0 Y0 X1 Y1 a b c e lP cP k r d v lK cK zK lC cC zC ks cs px m ot yy
  · exact ap_y2_rk_f nK nC X0 Y0 X1 Y1 a b c e lP cP k r d v lK cK zK lC cC zC ks cs px m ot yy
  · exact ap_y2_rk_t nK nC X0 Y0 X1 Y1 a b c e lP cP k r d v lK cK zK lC cC zC ks cs px m ot yy
theorem ap_y3_cv_t (m : Nat) (ot : List Int) (yy xx : Int) : RunIs Try.prog csG [(11, .give (.int .i64 (yy + 1)))] 1000 3 Try.f15 [5, 6, 8, 9, 10, 11] (seqR (seqR obA)) (sBx .cv nK nC X0 Y0 X1 Y1 a b c e lP cP k r d v lK cK zK lC cC zC ks cs px true m ot yy xx) [] [([], [upP yy (yy + 1)], .to .normal (sBy .cv nK nC X0 Y0 X1 Y1 a b c e lP cP k r d v lK cK zK lC cC zC ks cs px true m ot (yy + 1)))] := by
  unfold RunIs; cases nK <;> cases nC <;> kernel_rfl
theorem ap_y3_cv_f (m : Nat) (ot : List Int) (yy xx : Int) : RunIs Try.prog csG [(11, .give (.int .i64 (yy + 1)))] 1000 3 Try.f15 [5, 6, 8, 9, 10, 11] (seqR (seqR obA)) (sBx .cv nK nC X0 Y0 X1 Y1 a b c e lP cP k r d v lK cK zK lC cC zC ks cs px false m ot yy xx) [] [([], [upP yy (yy + 1)], .to .normal (sBy .cv nK nC X0 Y0 X1 Y1 a b c e lP cP k r d v lK cK zK lC cC zC ks cs px false m ot (yy + 1)))] := by
  unfold RunIs; cases nK <;> cases nC <;> kernel_rfl
theorem ap_y3_ton_t (m : Nat) (ot : List Int) (yy xx : Int) : RunIs Try.prog csG [(11, .give (.int .i64 (yy + 1)))] 1000 3 Try.f15 [5, 6, 8, 9, 10, 11] (seqR (seqR obA)) (sBx .ton nK nC X0 Y0 X1 Y1 a b c e lP cP k r d v lK cK zK lC cC zC ks cs px true m ot yy xx) [] [([], [upP yy (yy + 1)], .to .normal (sBy .ton nK nC X0 Y0 X1 Y1 a b c e lP cP k r d v lK cK zK lC cC zC ks cs px true m ot (yy + 1)))] := by
  unfold RunIs; cases nK <;> cases nC <;> kernel_rfl
theorem ap_y3_ton_f (m : Nat) (ot : List Int) (yy xx : Int) : RunIs Try.prog csG [(11, .give (.int .i64 (yy + 1)))] 1000 3 Try.f15 [5, 6, 8, 9, 10, 11] (seqR (seqR obA)) (sBx .ton nK nC X0 Y0 X1 Y1 a b c e lP cP k r d v lK cK zK lC cC zC ks cs px false m ot yy xx) [] [([], [upP yy (yy + 1)], .to .normal (sBy .ton nK nC X0 Y0 X1 Y1 a b c e lP cP k r d v lK cK zK lC cC zC ks cs px false m ot (yy + 1)))] := by
  unfold RunIs; cases nK <;> cases nC <;> kernel_rfl
theorem ap_y3_inv_t (m : Nat) (ot : List Int) (yy xx : Int) : RunIs Try.prog csG [(11, .give (.int .i64 (yy + 1)))] 1000 3 Try.f15 [5, 6, 8, 9, 10, 11] (seqR (seqR obA)) (sBx .inv nK nC X0 Y0 X1 Y1 a b c e lP cP k r d v lK cK zK lC cC zC ks cs px true m ot yy xx) [] [([], [upP yy (yy + 1)], .to .normal (sBy .inv nK nC X0 Y0 X1 Y1 a b c e lP cP k r d v lK cK zK lC cC zC ks cs px true m ot (yy + 1)))] := by
  unfold RunIs; cases nK <;> cases nC <;> kernel_rfl
theorem ap_y3_inv_f (m : Nat) (ot : List Int) (yy xx : Int) : RunIs Try.prog csG [(11, .give (.int .i64 (yy + 1)))] 1000 3 Try.f15 [5, 6, 8, 9, 10, 11] (seqR (seqR obA)) (sBx .inv nK nC X0 Y0 X1 Y1 a b c e lP cP k r d v lK cK zK lC cC zC ks cs px false m ot yy xx) [] [([], [upP yy (yy + 1)], .to .normal (sBy .inv nK nC X0 Y0 X1 Y1 a b c e lP cP k r d v lK cK zK lC cC zC ks cs px false m ot (yy + 1)))] := by
  unfold RunIs; cases nK <;> cases nC <;> kernel_rfl
theorem ap_y3_thr_t (m : Nat) (ot : List Int) (yy xx : Int) : RunIs Try.prog csG [(11, .give (.int .i64 (yy + 1)))] 1000 3 Try.f15 [5, 6, 8, 9, 10, 11] (seqR (seqR obA)) (sBx .thr nK nC X0 Y0 X1 Y1 a b c e lP cP k r d v lK cK zK lC cC zC ks cs px true m ot yy xx) [] [([], [upP yy (yy + 1)], .to .normal (sBy .thr nK nC X0 Y0 X1 Y1 a b c e lP cP k r d v lK cK zK lC cC zC ks cs px true m ot (yy + 1)))] := by
  unfold RunIs; cases nK <;> cases nC <;> kernel_rfl
theorem ap_y3_thr_f (m : Nat) (ot : List Int) (yy xx : Int) : RunIs Try.prog csG [(11, .give (.int .i64 (yy + 1)))] 1000 3 Try.f15 [5, 6, 8, 9, 10, 11] (seqR (seqR obA)) (sBx .thr nK nC X0 Y0 X1 Y1 a b c e lP cP k r d v lK cK zK lC cC zC ks cs px false m ot yy xx) [] [([], [upP yy (yy + 1)], .to .normal (sBy .thr nK nC X0 Y0 X1 Y1 a b c e lP cP k r d v lK cK zK lC cC zC ks cs px false m ot (yy + 1)))] := by
  unfold RunIs; cases nK <;> cases nC <;> kernel_rfl
theorem ap_y3_off_t (m : Nat) (ot : List Int) (yy xx : Int) : RunIs Try.prog csG [(11, .give (.int .i64 (yy + 1)))] 1000 3 Try.f15 [5, 6, 8, 9, 10, 11] (seqR (seqR obA)) (sBx .off nK nC X0 Y0 X1 Y1 a b c e lP cP k r d v lK cK zK lC cC zC ks cs px true m ot yy xx) [] [([], [upP yy (yy + 1)], .to .normal (sBy .off nK nC X0 Y0 X1 Y1 a b c e lP cP k r d v lK cK zK lC cC zC ks cs px true m ot (yy + 1)))] := by
  unfold RunIs; cases nK <;> cases nC <;> kernel_rfl
theorem ap_y3_off_f (m : Nat) (ot : List Int) (yy xx : Int) : RunIs Try.prog csG [(11, .give (.int .i64 (yy + 1)))] 1000 3 Try.f15 [5, 6, 8, 9, 10, 11] (seqR (seqR obA)) (sBx .off nK nC X0 Y0 X1 Y1 a b c e lP cP k r d v lK cK zK lC cC zC ks cs px false m ot yy xx) [] [([], [upP yy (yy + 1)], .to .normal (sBy .off nK nC X0 Y0 X1 Y1 a b c e lP cP k r d v lK cK zK lC cC zC ks cs px false m ot (yy + 1)))] := by
  unfold RunIs; cases nK <;> cases nC <;> kernel_rfl
theorem ap_y3_rk_t (m : Nat) (ot : List Int) (yy xx : Int) : RunIs Try.prog csG [(11, .give (.int .i64 (yy + 1)))] 1000 3 Try.f15 [5, 6, 8, 9, 10, 11] (seqR (seqR obA)) (sBx .rk nK nC X0 Y0 X1 Y1 a b c e lP cP k r d v lK cK zK lC cC zC ks cs px true m ot yy xx) [] [([], [upP yy (yy + 1)], .to .normal (sBy .rk nK nC X0 Y0 X1 Y1 a b c e lP cP k r d v lK cK zK lC cC zC ks cs px true m ot (yy + 1)))] := by
  unfold RunIs; cases nK <;> cases nC <;> kernel_rfl
theorem ap_y3_rk_f (m : Nat) (ot : List Int) (yy xx : Int) : RunIs Try.prog csG [(11, .give (.int .i64 (yy + 1)))] 1000 3 Try.f15 [5, 6, 8, 9, 10, 11] (seqR (seqR obA)) (sBx .rk nK nC X0 Y0 X1 Y1 a b c e lP cP k r d v lK cK zK lC cC zC ks cs px false m ot yy xx) [] [([], [upP yy (yy + 1)], .to .normal (sBy .rk nK nC X0 Y0 X1 Y1 a b c e lP cP k r d v lK cK zK lC cC zC ks cs px false m ot (yy + 1)))] := by
  unfold RunIs; cases nK <;> cases nC <;> kernel_rfl
theorem ap_y3 (kd : Kd) (f : Bool) (m : Nat) (ot : List Int) (yy xx : Int) : RunIs Try.prog csG [(11, .give (.int .i64 (yy + 1)))] 1000 3 Try.f15 [5, 6, 8, 9, 10, 11] (seqR (seqR obA)) (sBx kd nK nC X0 Y0 X1 Y1 a b c e lP cP k r d v lK cK zK lC cC zC ks cs px f m ot yy xx) [] [([], [upP yy (yy + 1)], .to .normal (sBy kd nK nC X0 Y0 X1 Y1 a b c e lP cP k r d v lK cK zK lC cC zC ks cs px f m ot (yy + 1)))] := by
  cases kd <;> cases f
  · exact ap_y3_cv_f nK nC X0 Y0 X1 Y1 a b c e lP cP k r d v lK cK zK lC cC zC ks cs px m ot yy xx
  · exact ap_y3_cv_t nK nC X0 Y0 X1 Y1 a b c e lP cP k r d v lK cK zK lC cC zC ks cs px m ot yy xx
  · exact ap_y3_ton_f nK nC X0 Y0 X1 Y1 a b c e lP cP k r d v lK cK zK lC cC zC ks cs px m ot yy xx
  · exact ap_y3_ton_t nK nC X0 Y0 X1 Y1 a b c e lP cP k r d v lK cK zK lC cC zC ks cs px m ot yy xx
  · exact ap_y3_inv_f nK nC X0 Y0 X1 Y1 a b c e lP cP k r d v lK cK zK lC cC zC ks cs px m ot yy xx
  · exact ap_y3_inv_t nK nC X0 Y0 X1 Y1 a b c e lP cP k r d v lK cK zK lC cC zC ks cs px m ot yy xx
  · exact ap_y3_thr_f nK nC X0 Y0 X1 Y1 a b c e lP cP k r d v lK cK zK lC cC zC ks cs px m ot yy xx
  · exact ap_y3_thr_t nK nC X0 Y0 X1 Y1 a b c e lP cP k r d v lK cK zK lC cC zC ks cs px m ot yy xx
  · exact ap_y3_off_f nK nC X0 Y0 X1 Y1 a b c e lP cP k r d v lK cK zK lC cC zC ks cs px m ot yy xx
  · exact ap_y3_off_t nK nC X0 Y0 X1 Y1 a b c e lP cP k r d v lK cK zK lC cC zC ks cs px m ot yy xx
  · exact ap_y3_rk_f nK nC X0 Y0 X1 Y1 a b c e lP cP k r d v lK cK zK lC cC zC ks cs px m ot yy xx
  · exact ap_y3_rk_t nK nC X0 Y0 X1 Y1 a b c e lP cP k r d v lK cK zK lC cC zC ks cs px m ot yy xx
theorem ap_xt_cv_t (yy xx : Int) : RunIs Try.prog csG [(73, .split), (12, .give (.int .i64 (xx + 1)))] 1000 3 Try.f15 [5, 6, 8, 9, 10, 11, 12] ixb (sBx .cv nK nC X0 Y0 X1 Y1 a b c e lP cP k r d v lK cK zK lC cC zC ks cs px true 0 [] yy xx) [.slc none 0 0 0, .slc none 0 0 0] [([(decide (xx < c), true)], apOk .cv nK nC X0 Y0 X1 lP k r v lK lC ks cs px xx yy ++ [upP xx (xx + 1)], .to .normal (sBr .cv nK nC X0 Y0 X1 Y1 a b c e lP cP k r d v lK cK zK lC cC zC ks cs px (apQ .cv nK nC X0 Y0 X1 k r d v lC ks cs px xx yy) yy (xx + 1))), ([(decide (xx < c), false)], [], .to (.exit 3) (sBx .cv nK nC X0 Y0 X1 Y1 a b c e lP cP k r d v lK cK zK lC cC zC ks cs px true 0 [] yy xx))] := by
  unfold RunIs; cases nK <;> cases nC <;> kernel_rfl
theorem ap_xt_ton_t (yy xx : Int) : RunIs Try.prog csG [(73, .split), (12, .give (.int .i64 (xx + 1)))] 1000 3 Try.f15 [5, 6, 8, 9, 10, 11, 12] ixb (sBx .ton nK nC X0 Y0 X1 Y1 a b c e lP cP k r d v lK cK zK lC cC zC ks cs px true 0 [] yy xx) [.slc none 0 0 0, .slc none 0 0 0] [([(decide (xx < c), true)], apOk .ton nK nC X0 Y0 X1 lP k r v lK lC ks cs px xx yy ++ [upP xx (xx + 1)], .to .normal (sBr .ton nK nC X0 Y0 X1 Y1 a b c e lP cP k r d v lK cK zK lC cC zC ks cs px (apQ .ton nK nC X0 Y0 X1 k r d v lC ks cs px xx yy) yy (xx + 1))), ([(decide (xx < c), false)], [], .to (.exit 3) (sBx .ton nK nC X0 Y0 X1 Y1 a b c e lP cP k r d v lK cK zK lC cC zC ks cs px true 0 [] yy xx))] := by
  unfold RunIs; cases nK <;> cases nC <;> kernel_rfl
theorem ap_xt_inv_t (yy xx : Int) : RunIs Try.prog csG [(73, .split), (12, .give (.int .i64 (xx + 1)))] 1000 3 Try.f15 [5, 6, 8, 9, 10, 11, 12] ixb (sBx .inv nK nC X0 Y0 X1 Y1 a b c e lP cP k r d v lK cK zK lC cC zC ks cs px true 0 [] yy xx) [.slc none 0 0 0, .slc none 0 0 0] [([(decide (xx < c), true)], apOk .inv nK nC X0 Y0 X1 lP k r v lK lC ks cs px xx yy ++ [upP xx (xx + 1)], .to .normal (sBr .inv nK nC X0 Y0 X1 Y1 a b c e lP cP k r d v lK cK zK lC cC zC ks cs px (apQ .inv nK nC X0 Y0 X1 k r d v lC ks cs px xx yy) yy (xx + 1))), ([(decide (xx < c), false)], [], .to (.exit 3) (sBx .inv nK nC X0 Y0 X1 Y1 a b c e lP cP k r d v lK cK zK lC cC zC ks cs px true 0 [] yy xx))] := by
  unfold RunIs; cases nK <;> cases nC <;> kernel_rfl
theorem ap_xt_thr_t (yy xx : Int) : RunIs Try.prog csG [(73, .split), (12, .give (.int .i64 (xx + 1)))] 1000 3 Try.f15 [5, 6, 8, 9, 10, 11, 12] ixb (sBx .thr nK nC X0 Y0 X1 Y1 a b c e lP cP k r d v lK cK zK lC cC zC ks cs px true 0 [] yy xx) [.slc none 0 0 0, .slc none 0 0 0] [([(decide (xx < c), true)], apOk .thr nK nC X0 Y0 X1 lP k r v lK lC ks cs px xx yy ++ [upP xx (xx + 1)], .to .normal (sBr .thr nK nC X0 Y0 X1 Y1 a b c e lP cP k r d v lK cK zK lC cC zC ks cs px (apQ .thr nK nC X0 Y0 X1 k r d v lC ks cs px xx yy) yy (xx + 1))), ([(decide (xx < c), false)], [], .to (.exit 3) (sBx .thr nK nC X0 Y0 X1 Y1 a b c e lP cP k r d v lK cK zK lC cC zC ks cs px true 0 [] yy xx))] := by
  unfold RunIs; cases nK <;> cases nC <;> kernel_rfl
theorem ap_xt_off_t (yy xx : Int) : RunIs Try.prog csG [(73, .split), (12, .give (.int .i64 (xx + 1)))] 1000 3 Try.f15 [5, 6, 8, 9, 10, 11, 12] ixb (sBx .off nK nC X0 Y0 X1 Y1 a b c e lP cP k r d v lK cK zK lC cC zC ks cs px true 0 [] yy xx) [.slc none 0 0 0, .slc none 0 0 0] [([(decide (xx < c), true)], apOk .off nK nC X0 Y0 X1 lP k r v lK lC ks cs px xx yy ++ [upP xx (xx + 1)], .to .normal (sBr .off nK nC X0 Y0 X1 Y1 a b c e lP cP k r d v lK cK zK lC cC zC ks cs px (apQ .off nK nC X0 Y0 X1 k r d v lC ks cs px xx yy) yy (xx + 1))), ([(decide (xx < c), false)], [], .to (.exit 3) (sBx .off nK nC X0 Y0 X1 Y1 a b c e lP cP k r d v lK cK zK lC cC zC ks cs px true 0 [] yy xx))] := by
  unfold RunIs; cases nK <;> cases nC <;> kernel_rfl
theorem ap_xt_rk_t (yy xx : Int) : RunIs Try.prog csG [(73, .split), (12, .give (.int .i64 (xx + 1)))] 1000 3 Try.f15 [5, 6, 8, 9, 10, 11, 12] ixb (sBx .rk nK nC X0 Y0 X1 Y1 a b c e lP cP k r d v lK cK zK lC cC zC ks cs px true 0 [] yy xx) [.slc none 0 0 0, .slc none 0 0 0] [([(decide (xx < c), true)], apOk .rk nK nC X0 Y0 X1 lP k r v lK lC ks cs px xx yy ++ [upP xx (xx + 1)], .to .normal (sBr .rk nK nC X0 Y0 X1 Y1 a b c e lP cP k r d v lK cK zK lC cC zC ks cs px (apQ .rk nK nC X0 Y0 X1 k r d v lC ks cs px xx yy) yy (xx + 1))), ([(decide (xx < c), false)], [], .to (.exit 3) (sBx .rk nK nC X0 Y0 X1 Y1 a b c e lP cP k r d v lK cK zK lC cC zC ks cs px true 0 [] yy xx))] := by
  unfold RunIs; cases nK <;> cases nC <;> kernel_rfl
theorem ap_xt (kd : Kd) (yy xx : Int) : RunIs Try.prog csG [(73, .split), (12, .give (.int .i64 (xx + 1)))] 1000 3 Try.f15 [5, 6, 8, 9, 10, 11, 12] ixb (sBx kd nK nC X0 Y0 X1 Y1 a b c e lP cP k r d v lK cK zK lC cC zC ks cs px true 0 [] yy xx) [.slc none 0 0 0, .slc none 0 0 0] [([(decide (xx < c), true)], apOk kd nK nC X0 Y0 X1 lP k r v lK lC ks cs px xx yy ++ [upP xx (xx + 1)], .to .normal (sBr kd nK nC X0 Y0 X1 Y1 a b c e lP cP k r d v lK cK zK lC cC zC ks cs px (apQ kd nK nC X0 Y0 X1 k r d v lC ks cs px xx yy) yy (xx + 1))), ([(decide (xx < c), false)], [], .to (.exit 3) (sBx kd nK nC X0 Y0 X1 Y1 a b c e lP cP k r d v lK cK zK lC cC zC ks cs px true 0 [] yy xx))] := by
  cases kd
  · exact ap_xt_cv_t nK nC X0 Y0 X1 Y1 a b c e lP cP k r d v lK cK zK lC cC zC ks cs px yy xx
  · exact ap_xt_ton_t nK nC X0 Y0 X1 Y1 a b c e lP cP k r d v lK cK zK lC cC zC ks cs px yy xx
  · exact ap_xt_inv_t nK nC X0 Y0 X1 Y1 a b c e lP cP k r d v lK cK zK lC cC zC ks cs px yy xx
  · exact ap_xt_thr_t nK nC X0 Y0 X1 Y1 a b c e lP cP k r d v lK cK zK lC cC zC ks cs px yy xx
  · exact ap_xt_off_t nK nC X0 Y0 X1 Y1 a b c e lP cP k r d v lK cK zK lC cC zC ks cs px yy xx
  · exact ap_xt_rk_t nK nC X0 Y0 X1 Y1 a b c e lP cP k r d v lK cK zK lC cC zC ks cs px yy xx
theorem ap_xf_cv_t (m : Nat) (ot : List Int) (yy xx : Int) : RunIs Try.prog csG [(73, .split), (12, .give (.int .i64 (xx + 1)))] 1000 3 Try.f15 [5, 6, 8, 9, 10, 11, 12] ixb (sBx .cv nK nC X0 Y0 X1 Y1 a b c e lP cP k r d v lK cK zK lC cC zC ks cs px false m ot yy xx) [.slc (some (6, 0)) m m 4, .slc (some (6, 0)) m m 4] [([(decide (xx < c), true)], apOk .cv nK nC X0 Y0 X1 lP k r v lK lC ks cs px xx yy ++ [0 < m, 0 + m * 4 ≤ ot.length, 0 < 1, roomy (m + 1) 4 4 = true, upP xx (xx + 1)], .to .normal (sBx .cv nK nC X0 Y0 X1 Y1 a b c e lP cP k r d v lK cK zK lC cC zC ks cs px false (m + 1) (outA m ot (apQ .cv nK nC X0 Y0 X1 k r d v lC ks cs px xx yy)) yy (xx + 1))), ([(decide (xx < c), false)], [], .to (.exit 3) (sBx .cv nK nC X0 Y0 X1 Y1 a b c e lP cP k r d v lK cK zK lC cC zC ks cs px false m ot yy xx))] := by
  unfold RunIs; cases nK <;> cases nC <;> kernel_rfl
theorem ap_xf_ton_t (m : Nat) (ot : List Int) (yy xx : Int) : RunIs Try.prog csG [(73, .split), (12, .give (.int .i64 (xx + 1)))] 1000 3 Try.f15 [5, 6, 8, 9, 10, 11, 12] ixb (sBx .ton nK nC X0 Y0 X1 Y1 a b c e lP cP k r d v lK cK zK lC cC zC ks cs px false m ot yy xx) [.slc (some (6, 0)) m m 4, .slc (some (6, 0)) m m 4] [([(decide (xx < c), true)], apOk .ton nK nC X0 Y0 X1 lP k r v lK lC ks cs px xx yy ++ [0 < m, 0 + m * 4 ≤ ot.length, 0 < 1, roomy (m + 1) 4 4 = true, upP xx (xx + 1)], .to .normal (sBx .ton nK nC X0 Y0 X1 Y1 a b c e lP cP k r d v lK cK zK lC cC zC ks cs px false (m + 1) (outA m ot (apQ .ton nK nC X0 Y0 X1 k r d v lC ks cs px xx yy)) yy (xx + 1))), ([(decide (xx < c), false)], [], .to (.exit 3) (sBx .ton nK nC X0 Y0 X1 Y1 a b c e lP cP k r d v lK cK zK lC cC zC ks cs px false m ot yy xx))] := by
  unfold RunIs; cases nK <;> cases nC <;> kernel_rfl
theorem ap_xf_inv_t (m : Nat) (ot : List Int) (yy xx : Int) : RunIs Try.prog csG [(73, .split), (12, .give (.int .i64 (xx + 1)))] 1000 3 Try.f15 [5, 6, 8, 9, 10, 11, 12] ixb (sBx .inv nK nC X0 Y0 X1 Y1 a b c e lP cP k r d v lK cK zK lC cC zC ks cs px false m ot yy xx) [.slc (some (6, 0)) m m 4, .slc (some (6, 0)) m m 4] [([(decide (xx < c), true)], apOk .inv nK nC X0 Y0 X1 lP k r v lK lC ks cs px xx yy ++ [0 < m, 0 + m * 4 ≤ ot.length, 0 < 1, roomy (m + 1) 4 4 = true, upP xx (xx + 1)], .to .normal (sBx .inv nK nC X0 Y0 X1 Y1 a b c e lP cP k r d v lK cK zK lC cC zC ks cs px false (m + 1) (outA m ot (apQ .inv nK nC X0 Y0 X1 k r d v lC ks cs px xx yy)) yy (xx + 1))), ([(decide (xx < c), false)], [], .to (.exit 3) (sBx .inv nK nC X0 Y0 X1 Y1 a b c e lP cP k r d v lK cK zK lC cC zC ks cs px false m ot yy xx))] := by
  unfold RunIs; cases nK <;> cases nC <;> kernel_rfl
theorem ap_xf_thr_t (m : Nat) (ot : List Int) (yy xx : Int) : RunIs Try.prog csG [(73, .split), (12, .give (.int .i64 (xx + 1)))] 1000 3 Try.f15 [5, 6, 8, 9, 10, 11, 12] ixb (sBx .thr nK nC X0 Y0 X1 Y1 a b c e lP cP k r d v lK cK zK lC cC zC ks cs px false m ot yy xx) [.slc (some (6, 0)) m m 4, .slc (some (6, 0)) m m 4] [([(decide (xx < c), true)], apOk .thr nK nC X0 Y0 X1 lP k r v lK lC ks cs px xx yy ++ [0 < m, 0 + m * 4 ≤ ot.length, 0 < 1, roomy (m + 1) 4 4 = true, upP xx (xx + 1)], .to .normal (sBx .thr nK nC X0 Y0 X1 Y1 a b c e lP cP k r d v lK cK zK lC cC zC ks cs px false (m + 1) (outA m ot (apQ .thr nK nC X0 Y0 X1 k r d v lC ks cs px xx yy)) yy (xx + 1))), ([(decide (xx < c), false)], [], .to (.exit 3) (sBx .thr nK nC X0 Y0 X1 Y1 a b c e lP cP k r d v lK cK zK lC cC zC ks cs px false m ot yy xx))] := by
  unfold RunIs; cases nK <;> cases nC <;> kernel_rfl
theorem ap_xf_off_t (m : Nat) (ot : List Int) (yy xx : Int) : RunIs Try.prog csG [(73, .split), (12, .give (.int .i64 (xx + 1)))] 1000 3 Try.f15 [5, 6, 8, 9, 10, 11, 12] ixb (sBx .off nK nC X0 Y0 X1 Y1 a b c e lP cP k r d v lK cK zK lC cC zC ks cs px false m ot yy xx) [.slc (some (6, 0)) m m 4, .slc (some (6, 0)) m m 4] [([(decide (xx < c), true)], apOk .off nK nC X0 Y0 X1 lP k r v lK lC ks cs px xx yy ++ [0 < m, 0 + m * 4 ≤ ot.length, 0 < 1, roomy (m + 1) 4 4 = true, upP xx (xx + 1)], .to .normal (sBx .off nK nC X0 Y0 X1 Y1 a b c e lP cP k r d v lK cK zK lC cC zC ks cs px false (m + 1) (outA m ot (apQ .off nK nC X0 Y0 X1 k r d v lC ks cs px xx yy)) yy (xx + 1))), ([(decide (xx < c), false)], [], .to (.exit 3) (sBx .off nK nC X0 Y0 X1 Y1 a b c e lP cP k r d v lK cK zK lC cC zC ks cs px false m ot yy xx))] := by
  unfold RunIs; cases nK <;> cases nC <;> kernel_rfl
theorem ap_xf_rk_t (m : Nat) (ot : List Int) (yy xx : Int) : RunIs Try.prog csG [(73, .split), (12, .give (.int .i64 (xx + 1)))] 1000 3 Try.f15 [5, 6, 8, 9, 10, 11, 12] ixb (sBx .rk nK nC X0 Y0 X1 Y1 a b c e lP cP k r d v lK cK zK lC cC zC ks cs px false m ot yy xx) [.slc (some (6, 0)) m m 4, .slc (some (6, 0)) m m 4] [([(decide (xx < c), true)], apOk .rk nK nC X0 Y0 X1 lP k r v lK lC ks cs px xx yy ++ [0 < m, 0 + m * 4 ≤ ot.length, 0 < 1, roomy (m + 1) 4 4 = true, upP xx (xx + 1)], .to .normal (sBx .rk nK nC X0 Y0 X1 Y1 a b c e lP cP k r d v lK cK zK lC cC zC ks cs px false (m + 1) (outA m ot (apQ .rk nK nC X0 Y0 X1 k r d v lC ks cs px xx yy)) yy (xx + 1))), ([(decide (xx < c), false)], [], .to (.exit 3) (sBx .rk nK nC X0 Y0 X1 Y1 a b c e lP cP k r d v lK cK zK lC cC zC ks cs px false m ot yy xx))] := by
  unfold RunIs; cases nK <;> cases nC <;> kernel_rfl
theorem ap_xf (kd : Kd) (m : Nat) (ot : List Int) (yy xx : Int) : RunIs Try.prog csG [(73, .split), (12, .give (.int .i64 (xx + 1)))] 1000 3 Try.f15 [5, 6, 8, 9, 10, 11, 12] ixb (sBx kd nK nC X0 Y0 X1 Y1 a b c e lP cP k r d v lK cK zK lC cC zC ks cs px false m ot yy xx) [.slc (some (6, 0)) m m 4, .slc (some (6, 0)) m m 4] [([(decide (xx < c), true)], apOk kd nK nC X0 Y0 X1 lP k r v lK lC ks cs px xx yy ++ [0 < m, 0 + m * 4 ≤ ot.length, 0 < 1, roomy (m + 1) 4 4 = true, upP xx (xx + 1)], .to .normal (sBx kd nK nC X0 Y0 X1 Y1 a b c e lP cP k r d v lK cK zK lC cC zC ks cs px false (m + 1) (outA m ot (apQ kd nK nC X0 Y0 X1 k r d v lC ks cs px xx yy)) yy (xx + 1))), ([(decide (xx < c), false)], [], .to (.exit 3) (sBx kd nK nC X0 Y0 X1 Y1 a b c e lP cP k r d v lK cK zK lC cC zC ks cs px false m ot yy xx))] := by
  cases kd
  · exact ap_xf_cv_t nK nC X0 Y0 X1 Y1 a b c e lP cP k r d v lK cK zK lC cC zC ks cs px m ot yy xx
  · exact ap_xf_ton_t nK nC X0 Y0 X1 Y1 a b c e lP cP k r d v lK cK zK lC cC zC ks cs px m ot yy xx
  · exact ap_xf_inv_t nK nC X0 Y0 X1 Y1 a b c e lP cP k r d v lK cK zK lC cC zC ks cs px m ot yy xx
  · exact ap_xf_thr_t nK nC X0 Y0 X1 Y1 a b c e lP cP k r d v lK cK zK lC cC zC ks cs px m ot yy xx
  · exact ap_xf_off_t nK nC X0 Y0 X1 Y1 a b c e lP cP k r d v lK cK zK lC cC zC ks cs px m ot yy xx
  · exact ap_xf_rk_t nK nC X0 Y0 X1 Y1 a b c e lP cP k r d v lK cK zK lC cC zC ks cs px m ot yy xx
theorem ap_own (kd : Kd) (q : Q4) (yy xx : Int) : ownS [(6, .u8)] (sBr kd nK nC X0 Y0 X1 Y1 a b c e lP cP k r d v lK cK zK lC cC zC ks cs px q yy xx) = some (sBx kd nK nC X0 Y0 X1 Y1 a b c e lP cP k r d v lK cK zK lC cC zC ks cs px false 1 (outA 0 [] q) yy xx) := by
  cases kd <;> cases nK <;> cases nC <;> kernel_rfl
theorem ap_nx (kd : Kd) (f : Bool) (m : Nat) (ot : List Int) (yy xx : Int) : normG 3 [5, 6, 8, 9, 10, 11, 12] (sBx kd nK nC X0 Y0 X1 Y1 a b c e lP cP k r d v lK cK zK lC cC zC ks cs px f m ot yy xx) = some (sBx kd nK nC X0 Y0 X1 Y1 a b c e lP cP k r d v lK cK zK lC cC zC ks cs px f m ot yy xx) := by
  cases kd <;> cases f <;> cases nK <;> cases nC <;> kernel_rfl
theorem ap_ny (kd : Kd) (f : Bool) (m : Nat) (ot : List Int) (yy : Int) : normG 3 [5, 6, 8, 9, 10, 11] (sBy kd nK nC X0 Y0 X1 Y1 a b c e lP cP k r d v lK cK zK lC cC zC ks cs px f m ot yy) = some (sBy kd nK nC X0 Y0 X1 Y1 a b c e lP cP k r d v lK cK zK lC cC zC ks cs px f m ot yy) := by
  cases kd <;> cases f <;> cases nK <;> cases nC <;> kernel_rfl
def resV (a b c e : Int) (f : Bool) (m : Nat) : V := .tup [.agg [.int .i64 a, .int .i64 b, .int .i64 c, .int .i64 e, match f with | true => .slc none 0 0 0 | false => .slc (some (3, 0)) m m 4], .int .i64 0]
def resH (nK nC : Bool) (ks cs px : List Int) (f : Bool) (ot : List Int) : Tr O := hL (rowsR nK nC ks cs px ++ match f with | true => [] | false => [(3, .own .u8 ot)])
def resN (f : Bool) : Nat := match f with | true => 3 | false => 4
theorem ap_en_cv_t (m : Nat) (ot : List Int) (yy : Int) : RunIs Try.prog csG [] 1000 3 Try.f15 [] enA (sBy .cv nK nC X0 Y0 X1 Y1 a b c e lP cP k r d v lK cK zK lC cC zC ks cs px true m ot yy) [] [([], [], .ret (resV a b c e true m) (resH nK nC ks cs px true ot) (resN true))] := by
  unfold RunIs; cases nK <;> cases nC <;> kernel_rfl
theorem ap_en_cv_f (m : Nat) (ot : List Int) (yy : Int) : RunIs Try.prog csG [] 1000 3 Try.f15 [] enA (sBy .cv nK nC X0 Y0 X1 Y1 a b c e lP cP k r d v lK cK zK lC cC zC ks cs px false m ot yy) [] [([], [], .ret (resV a b c e false m) (resH nK nC ks cs px false ot) (resN false))] := by
  unfold RunIs; cases nK <;> cases nC <;> kernel_rfl
theorem ap_en_ton_t (m : Nat) (ot : List Int) (yy : Int) : RunIs Try.prog csG [] 1000 3 Try.f15 [] enA (sBy .ton nK nC X0 Y0 X1 Y1 a b c e lP cP k r d v lK cK zK lC cC zC ks cs px true m ot yy) [] [([], [], .ret (resV a b c e true m) (resH nK nC ks cs px true ot) (resN true))] := by
  unfold RunIs; cases nK <;> cases nC <;> kernel_rfl
theorem ap_en_ton_f (m : Nat) (ot : List Int) (yy : Int) : RunIs Try.prog csG [] 1000 3 Try.f15 [] enA (sBy .ton nK nC X0 Y0 X1 Y1 a b c e lP cP k r d v lK cK zK lC cC zC ks cs px false m ot yy) [] [([], [], .ret (resV a b c e false m) (resH nK nC ks cs px false ot) (resN false))] := by
  unfold RunIs; cases nK <;> cases nC <;> kernel_rfl
theorem ap_en_inv_t (m : Nat) (ot : List Int) (yy : Int) : RunIs Try.prog csG [] 1000 3 Try.f15 [] enA (sBy .inv nK nC X0 Y0 X1 Y1 a b c e lP cP k r d v lK cK zK lC cC zC ks cs px true m ot yy) [] [([], [], .ret (resV a b c e true m) (resH nK nC ks cs px true ot) (resN true))] := by
  unfold RunIs; cases nK <;> cases nC <;> kernel_rfl
theorem ap_en_inv_f (m : Nat) (ot : List Int) (yy : Int) : RunIs Try.prog csG [] 1000 3 Try.f15 [] enA (sBy .inv nK nC X0 Y0 X1 Y1 a b c e lP cP k r d v lK cK zK lC cC zC ks cs px false m ot yy) [] [([], [], .ret (resV a b c e false m) (resH nK nC ks cs px false ot) (resN false))] := by
  unfold RunIs; cases nK <;> cases nC <;> kernel_rfl
theorem ap_en_thr_t (m : Nat) (ot : List Int) (yy : Int) : RunIs Try.prog csG [] 1000 3 Try.f15 [] enA (sBy .thr nK nC X0 Y0 X1 Y1 a b c e lP cP k r d v lK cK zK lC cC zC ks cs px true m ot yy) [] [([], [], .ret (resV a b c e true m) (resH nK nC ks cs px true ot) (resN true))] := by
  unfold RunIs; cases nK <;> cases nC <;> kernel_rfl
theorem ap_en_thr_f (m : Nat) (ot : List Int) (yy : Int) : RunIs Try.prog csG [] 1000 3 Try.f15 [] enA (sBy .thr nK nC X0 Y0 X1 Y1 a b c e lP cP k r d v lK cK zK lC cC zC ks cs px false m ot yy) [] [([], [], .ret (resV a b c e false m) (resH nK nC ks cs px false ot) (resN false))] := by
  unfold RunIs; cases nK <;> cases nC <;> kernel_rfl
theorem ap_en_off_t (m : Nat) (ot : List Int) (yy : Int) : RunIs Try.prog csG [] 1000 3 Try.f15 [] enA (sBy .off nK nC X0 Y0 X1 Y1 a b c e lP cP k r d v lK cK zK lC cC zC ks cs px true m ot yy) [] [([], [], .ret (resV a b c e true m) (resH nK nC ks cs px true ot) (resN true))] := by
  unfold RunIs; cases nK <;> cases nC <;> kernel_rfl
theorem ap_en_off_f (m : Nat) (ot : List Int) (yy : Int) : RunIs Try.prog csG [] 1000 3 Try.f15 [] enA (sBy .off nK nC X0 Y0 X1 Y1 a b c e lP cP k r d v lK cK zK lC cC zC ks cs px false m ot yy) [] [([], [], .ret (resV a b c e false m) (resH nK nC ks cs px false ot) (resN false))] := by
  unfold RunIs; cases nK <;> cases nC <;> kernel_rfl
theorem ap_en_rk_t (m : Nat) (ot : List Int) (yy : Int) : RunIs Try.prog csG [] 1000 3 Try.f15 [] enA (sBy .rk nK nC X0 Y0 X1 Y1 a b c e lP cP k r d v lK cK zK lC cC zC ks cs px true m ot yy) [] [([], [], .ret (resV a b c e true m) (resH nK nC ks cs px true ot) (resN true))] := by
  unfold RunIs; cases nK <;> cases nC <;> kernel_rfl
theorem ap_en_rk_f (m : Nat) (ot : List Int) (yy : Int) : RunIs Try.prog csG [] 1000 3 Try.f15 [] enA (sBy .rk nK nC X0 Y0 X1 Y1 a b c e lP cP k r d v lK cK zK lC cC zC ks cs px false m ot yy) [] [([], [], .ret (resV a b c e false m) (resH nK nC ks cs px false ot) (resN false))] := by
  unfold RunIs; cases nK <;> cases nC <;> kernel_rfl
theorem ap_en (kd : Kd) (f : Bool) (m : Nat) (ot : List Int) (yy : Int) : RunIs Try.prog csG [] 1000 3 Try.f15 [] enA (sBy kd nK nC X0 Y0 X1 Y1 a b c e lP cP k r d v lK cK zK lC cC zC ks cs px f m ot yy) [] [([], [], .ret (resV a b c e f m) (resH nK nC ks cs px f ot) (resN f))] := by
  cases kd <;> cases f
  · exact ap_en_cv_f nK nC X0 Y0 X1 Y1 a b c e lP cP k r d v lK cK zK lC cC zC ks cs px m ot yy
  · exact ap_en_cv_t nK nC X0 Y0 X1 Y1 a b c e lP cP k r d v lK cK zK lC cC zC ks cs px m ot yy
  · exact ap_en_ton_f nK nC X0 Y0 X1 Y1 a b c e lP cP k r d v lK cK zK lC cC zC ks cs px m ot yy
  · exact ap_en_ton_t nK nC X0 Y0 X1 Y1 a b c e lP cP k r d v lK cK zK lC cC zC ks cs px m ot yy
  · exact ap_en_inv_f nK nC X0 Y0 X1 Y1 a b c e lP cP k r d v lK cK zK lC cC zC ks cs px m ot yy
  · exact ap_en_inv_t nK nC X0 Y0 X1 Y1 a b c e lP cP k r d v lK cK zK lC cC zC ks cs px m ot yy
  · exact ap_en_thr_f nK nC X0 Y0 X1 Y1 a b c e lP cP k r d v lK cK zK lC cC zC ks cs px m ot yy
  · exact ap_en_thr_t nK nC X0 Y0 X1 Y1 a b c e lP cP k r d v lK cK zK lC cC zC ks cs px m ot yy
  · exact ap_en_off_f nK nC X0 Y0 X1 Y1 a b c e lP cP k r d v lK cK zK lC cC zC ks cs px m ot yy
  · exact ap_en_off_t nK nC X0 Y0 X1 Y1 a b c e lP cP k r d v lK cK zK lC cC zC ks cs px m ot yy
  · exact ap_en_rk_f nK nC X0 Y0 X1 Y1 a b c e lP cP k r d v lK cK zK lC cC zC ks cs px m ot yy
  · exact ap_en_rk_t nK nC X0 Y0 X1 Y1 a b c e lP cP k r d v lK cK zK lC cC zC ks cs px m ot yy
end
end Go.Proofs.Ytadejpmecljjpaa
namespace Go.Proofs.Ytadejpmecljjpaa
open Go Go.Eng
def outR (p : Nat → Q4) : Nat → List Int
  | 0 => []
  | m + 1 => outA m (outR p m) (p m)
def q4l (q : Q4) : List Int := [q.1, q.2.1, q.2.2.1, q.2.2.2]
theorem outR_len (p : Nat → Q4) : ∀ m, (outR p m).length = m * 4
  | 0 => rfl
  | m + 1 => by
    have ih := outR_len p m
    simp only [outR, outA, List.drop_zero, List.length_append, List.length_take, List.length_cons, List.length_nil, ih]
    omega
section
variable (hs : Sorts Try.prog 97) (kd : Kd) (nK nC : Bool) (X0 Y0 X1 Y1 a b c e : Int) (lP cP : Nat) (k r d v : Int) (lK cK zK lC cC zC : Nat) (ks cs px : List Int)
def apP (m : Nat) : Q4 := apQ kd nK nC X0 Y0 X1 k r d v lC ks cs px (a + Int.ofNat (m % (c - a).toNat)) (b + Int.ofNat (m / (c - a).toNat))
abbrev oR (m : Nat) : List Int := outR (apP kd nK nC X0 Y0 X1 a b c k r d v lC ks cs px) m
abbrev sY (m : Nat) (yy : Int) : St := sBy kd nK nC X0 Y0 X1 Y1 a b c e lP cP k r d v lK cK zK lC cC zC ks cs px (Nat.beq m 0) m (oR kd nK nC X0 Y0 X1 a b c k r d v lC ks cs px m) yy
abbrev sX (m : Nat) (yy xx : Int) : St := sBx kd nK nC X0 Y0 X1 Y1 a b c e lP cP k r d v lK cK zK lC cC zC ks cs px (Nat.beq m 0) m (oR kd nK nC X0 Y0 X1 a b c k r d v lC ks cs px m) yy xx
theorem apP_ab (i j : Nat) (hj : j < (c - a).toNat) : apP kd nK nC X0 Y0 X1 a b c k r d v lC ks cs px (i * (c - a).toNat + j) = apQ kd nK nC X0 Y0 X1 k r d v lC ks cs px (a + Int.ofNat j) (b + Int.ofNat i) := by
  unfold apP
  have h1 : (i * (c - a).toNat + j) % (c - a).toNat = j := by rw [Nat.mul_comm, Nat.mul_add_mod, Nat.mod_eq_of_lt hj]
  have h2 : (i * (c - a).toNat + j) / (c - a).toNat = i := by rw [Nat.mul_comm, Nat.mul_add_div (by omega), Nat.div_eq_of_lt hj]; omega
  rw [h1, h2]
structure ApOk : Prop where
  ba : -2000000 ≤ a ∧ a ≤ 2000000
  bb : -2000000 ≤ b ∧ b ≤ 2000000
  bc : -2000000 ≤ c ∧ c ≤ 2000000
  be : -2000000 ≤ e ∧ e ≤ 2000000
  sz : (e - b).toNat * (c - a).toNat ≤ 262144
  ok : ∀ x y, a ≤ x → x < c → b ≤ y → y < e → ∀ p ∈ apOk kd nK nC X0 Y0 X1 lP k r v lK lC ks cs px x y, p
variable (hA : ApOk kd nK nC X0 Y0 X1 a b c e lP k r v lK lC ks cs px)
include hs hA
theorem ap_inner (i : Nat) (hi : i < (e - b).toNat) : TG Try.prog 3 Try.f15.ntmps ilA (sX kd nK nC X0 Y0 X1 Y1 a b c e lP cP k r d v lK cK zK lC cC zC ks cs px (i * (c - a).toNat) (b + Int.ofNat i) a)
    (fun z s' => z = .exit 3 ∧ ∃ xx, normG 3 [5, 6, 8, 9, 10, 11, 12] s' = some (sX kd nK nC X0 Y0 X1 Y1 a b c e lP cP k r d v lK cK zK lC cC zC ks cs px ((i + 1) * (c - a).toNat) (b + Int.ofNat i) xx)) := by
  obtain ⟨⟨ha1, ha2⟩, ⟨hb1, hb2⟩, ⟨hc1, hc2⟩, ⟨he1, he2⟩, hsz, hok⟩ := id hA
  refine TG_loop_inv (fun k' s => ∃ j, k' = (c - a).toNat - j ∧ j ≤ (c - a).toNat ∧ ∃ L s1 l, normG 3 L s = some s1 ∧ ownS l s1 = some (sX kd nK nC X0 Y0 X1 Y1 a b c e lP cP k r d v lK cK zK lC cC zC ks cs px (i * (c - a).toNat + j) (b + Int.ofNat i) (a + Int.ofNat j))) (by kernel_rfl) ?_ (c - a).toNat ⟨0, rfl, Nat.zero_le _, [5, 6, 8, 9, 10, 11, 12], _, [], ap_nx nK nC X0 Y0 X1 Y1 a b c e lP cP k r d v lK cK zK lC cC zC ks cs px kd _ _ _ _ _, by
      have e : a + Int.ofNat 0 = a := by show a + ((0 : Nat) : Int) = _; omega
      rw [e]; rfl⟩
  rintro k' s ⟨j, hk, hj, L, s1, l, hs1, ho⟩
  refine TG_norm hs1 (TG_own l ho ?_)
  have hJ : Int.ofNat j = (j : Int) := rfl
  have hI : Int.ofNat i = (i : Int) := rfl
  have htest : (a + Int.ofNat j < c) ↔ j < (c - a).toNat := by rw [hJ]; omega
  have e1 : a + Int.ofNat (j + 1) = a + Int.ofNat j + 1 := by show a + ((j + 1 : Nat) : Int) = a + (j : Int) + 1; omega
  have hgo : j < (c - a).toNat → i * (c - a).toNat + j < 262144 := by
    intro hlt
    have h1 := Nat.mul_le_mul_right (c - a).toNat (show i + 1 ≤ (e - b).toNat by omega)
    rw [Nat.add_mul, Nat.one_mul] at h1
    omega
  have hend : ¬ j < (c - a).toNat → ∀ s', normG 3 [5, 6, 8, 9, 10, 11, 12] s' = some (sX kd nK nC X0 Y0 X1 Y1 a b c e lP cP k r d v lK cK zK lC cC zC ks cs px (i * (c - a).toNat + j) (b + Int.ofNat i) (a + Int.ofNat j)) →
      ∃ xx, normG 3 [5, 6, 8, 9, 10, 11, 12] s' = some (sX kd nK nC X0 Y0 X1 Y1 a b c e lP cP k r d v lK cK zK lC cC zC ks cs px ((i + 1) * (c - a).toNat) (b + Int.ofNat i) xx) := by
    intro hge s' hs'
    have hje : j = (c - a).toNat := by omega
    refine ⟨a + Int.ofNat j, ?_⟩
    have e : (i + 1) * (c - a).toNat = i * (c - a).toNat + j := by rw [Nat.add_mul, Nat.one_mul, hje]
    rw [e]; exact hs'
  have hpix : j < (c - a).toNat → oR kd nK nC X0 Y0 X1 a b c k r d v lC ks cs px (i * (c - a).toNat + (j + 1)) = outA (i * (c - a).toNat + j) (oR kd nK nC X0 Y0 X1 a b c k r d v lC ks cs px (i * (c - a).toNat + j)) (apQ kd nK nC X0 Y0 X1 k r d v lC ks cs px (a + Int.ofNat j) (b + Int.ofNat i)) := by
    intro hlt
    rw [← apP_ab kd nK nC X0 Y0 X1 a b c k r d v lC ks cs px i j hlt]; rfl
  have hat : j < (c - a).toNat → ∀ p ∈ apOk kd nK nC X0 Y0 X1 lP k r v lK lC ks cs px (a + Int.ofNat j) (b + Int.ofNat i), p := by
    intro hlt
    exact hok _ _ (by rw [hJ]; omega) (htest.2 hlt) (by rw [hI]; omega) (by rw [hI]; omega)
  have hup : upP (a + Int.ofNat j) (a + Int.ofNat j + 1) := upI (by rw [hJ]; omega) (by rw [hJ]; omega)
  cases hm : i * (c - a).toNat + j with
  | zero =>
    rw [hm] at hend
    refine TG_is (XG hs) mo anyR (by kernel_rfl) (ap_xt nK nC X0 Y0 X1 Y1 a b c e lP cP k r d v lK cK zK lC cC zC ks cs px kd (b + Int.ofNat i) (a + Int.ofNat j)) fun g hg hc => ?_
    simp only [List.mem_cons, List.not_mem_nil, or_false] at hg
    rcases hg with rfl | rfl
    · have hlt : j < (c - a).toNat := htest.1 (of_decide_eq_true (hc _ (List.mem_singleton.2 rfl)))
      refine ⟨fun p hp => ?_, fun s' hs' => ⟨(c - a).toNat - (j + 1), by omega, j + 1, rfl, by omega, _, _, [(6, .u8)], hs', ?_⟩⟩
      · rcases List.mem_append.1 hp with hp | hp
        · exact hat hlt p hp
        · rw [List.mem_singleton] at hp; subst hp; exact hup
      · have h2 := hpix hlt
        rw [hm] at h2
        have em : i * (c - a).toNat + (j + 1) = 1 := by omega
        rw [em] at h2 ⊢
        rw [e1]
        show _ = some (sBx kd nK nC X0 Y0 X1 Y1 a b c e lP cP k r d v lK cK zK lC cC zC ks cs px false 1 (oR kd nK nC X0 Y0 X1 a b c k r d v lC ks cs px 1) _ _)
        rw [h2]
        exact ap_own nK nC X0 Y0 X1 Y1 a b c e lP cP k r d v lK cK zK lC cC zC ks cs px kd _ _ _
    · have hge : ¬ j < (c - a).toNat := fun q => (of_decide_eq_false (hc _ (List.mem_singleton.2 rfl))) (htest.2 q)
      exact ⟨by simp, fun s' hs' => ⟨rfl, hend hge s' hs'⟩⟩
  | succ m' =>
    have hpos : 0 < i * (c - a).toNat + j := by omega
    have hbeq : Nat.beq (i * (c - a).toNat + j) 0 = false := by rw [hm]; rfl
    rw [← hm]
    refine TG_is (XG hs) mo anyR (by kernel_rfl) (s := sBx kd nK nC X0 Y0 X1 Y1 a b c e lP cP k r d v lK cK zK lC cC zC ks cs px (Nat.beq (i * (c - a).toNat + j) 0) (i * (c - a).toNat + j) (oR kd nK nC X0 Y0 X1 a b c k r d v lC ks cs px (i * (c - a).toNat + j)) (b + Int.ofNat i) (a + Int.ofNat j)) (by rw [hbeq]; exact ap_xf nK nC X0 Y0 X1 Y1 a b c e lP cP k r d v lK cK zK lC cC zC ks cs px kd _ _ (b + Int.ofNat i) (a + Int.ofNat j)) fun g hg hc => ?_
    simp only [List.mem_cons, List.not_mem_nil, or_false] at hg
    rcases hg with rfl | rfl
    · have hlt : j < (c - a).toNat := htest.1 (of_decide_eq_true (hc _ (List.mem_singleton.2 rfl)))
      have g1 := hgo hlt
      refine ⟨fun p hp => ?_, fun s' hs' => ⟨(c - a).toNat - (j + 1), by omega, j + 1, rfl, by omega, _, _, [], hs', ?_⟩⟩
      · rcases List.mem_append.1 hp with hp | hp
        · exact hat hlt p hp
        · simp only [List.mem_cons, List.not_mem_nil, or_false] at hp
          rcases hp with rfl | rfl | rfl | rfl | rfl
          · exact hpos
          · rw [outR_len]; omega
          · first | trivial | omega
          · unfold roomy; rw [decide_eq_true_iff]; omega
          · exact hup
      · rw [e1, ownS_nil]
        show _ = some (sBx kd nK nC X0 Y0 X1 Y1 a b c e lP cP k r d v lK cK zK lC cC zC ks cs px false (i * (c - a).toNat + (j + 1)) (oR kd nK nC X0 Y0 X1 a b c k r d v lC ks cs px (i * (c - a).toNat + (j + 1))) _ _)
        rw [hpix hlt]; rfl
    · have hge : ¬ j < (c - a).toNat := fun q => (of_decide_eq_false (hc _ (List.mem_singleton.2 rfl))) (htest.2 q)
      refine ⟨by simp, fun s' hs' => ⟨rfl, hend hge s' ?_⟩⟩
      unfold sX; rw [hbeq]; exact hs'
theorem ap_outer : TG Try.prog 3 Try.f15.ntmps olA (sY kd nK nC X0 Y0 X1 Y1 a b c e lP cP k r d v lK cK zK lC cC zC ks cs px 0 b)
    (fun z s' => z = .exit 1 ∧ ∃ yy, normG 3 [5, 6, 8, 9, 10, 11] s' = some (sY kd nK nC X0 Y0 X1 Y1 a b c e lP cP k r d v lK cK zK lC cC zC ks cs px ((e - b).toNat * (c - a).toNat) yy)) := by
  obtain ⟨⟨ha1, ha2⟩, ⟨hb1, hb2⟩, ⟨hc1, hc2⟩, ⟨he1, he2⟩, hsz, hok⟩ := id hA
  refine TG_loop_inv (fun k' s => ∃ i, k' = (e - b).toNat - i ∧ i ≤ (e - b).toNat ∧ ∃ L, normG 3 L s = some (sY kd nK nC X0 Y0 X1 Y1 a b c e lP cP k r d v lK cK zK lC cC zC ks cs px (i * (c - a).toNat) (b + Int.ofNat i))) (by kernel_rfl) ?_ (e - b).toNat ⟨0, rfl, Nat.zero_le _, [5, 6, 8, 9, 10, 11], by
      have hz : b + Int.ofNat 0 = b := by show b + ((0 : Nat) : Int) = _; omega
      rw [hz, Nat.zero_mul]
      exact ap_ny nK nC X0 Y0 X1 Y1 a b c e lP cP k r d v lK cK zK lC cC zC ks cs px kd _ _ _ _⟩
  rintro k' s ⟨i, hk, hi, L, hs1⟩
  refine TG_norm hs1 ?_
  have hI : Int.ofNat i = (i : Int) := rfl
  have htest : (b + Int.ofNat i < e) ↔ i < (e - b).toNat := by rw [hI]; omega
  refine TG_isSeq (XG hs) mo anyR (by kernel_rfl) (by kernel_rfl) (ap_y1 nK nC X0 Y0 X1 Y1 a b c e lP cP k r d v lK cK zK lC cC zC ks cs px kd _ _ _ _) fun g hg hc => ?_
  simp only [List.mem_cons, List.not_mem_nil, or_false] at hg
  rcases hg with rfl | rfl
  · have hlt : i < (e - b).toNat := htest.1 (of_decide_eq_true (hc _ (List.mem_singleton.2 rfl)))
    refine ⟨by simp, fun s' hs' => TG_norm hs' ?_⟩
    refine TG_seq' (by kernel_rfl) ?_
    refine TG_block (i := 2) (by kernel_rfl) ?_
    refine TG_isSeq (XG hs) mo anyR (by kernel_rfl) (by kernel_rfl) (ap_y2 nK nC X0 Y0 X1 Y1 a b c e lP cP k r d v lK cK zK lC cC zC ks cs px kd _ _ _ _) fun g hg _ => ?_
    rw [List.mem_singleton] at hg; subst hg
    refine ⟨by simp, fun s' hs' => TG_norm hs' ?_⟩
    refine TG_block (i := 3) (by kernel_rfl) ?_
    refine TG_mono (ap_inner hs kd nK nC X0 Y0 X1 Y1 a b c e lP cP k r d v lK cK zK lC cC zC ks cs px hA i hlt) ?_
    rintro z s' ⟨rfl, xx, hs2⟩
    rw [outOf_exit]
    simp only [outOf, andThen]
    refine TG_norm hs2 ?_
    refine TG_is (XG hs) mo anyR (by kernel_rfl) (ap_y3 nK nC X0 Y0 X1 Y1 a b c e lP cP k r d v lK cK zK lC cC zC ks cs px kd _ _ _ _ _) fun g hg _ => ?_
    rw [List.mem_singleton] at hg; subst hg
    refine ⟨by
      intro p hp; rw [List.mem_singleton] at hp; subst hp
      exact upI (by rw [hI]; omega) (by rw [hI]; omega), fun s' hs' => ?_⟩
    refine ⟨(e - b).toNat - (i + 1), by omega, i + 1, rfl, by omega, [5, 6, 8, 9, 10, 11], ?_⟩
    have e : b + Int.ofNat (i + 1) = b + Int.ofNat i + 1 := by show b + ((i + 1 : Nat) : Int) = b + (i : Int) + 1; omega
    rw [e]; exact hs'
  · have hge : ¬ i < (e - b).toNat := fun q => (of_decide_eq_false (hc _ (List.mem_singleton.2 rfl))) (htest.2 q)
    have hie : i = (e - b).toNat := by omega
    refine ⟨by simp, fun s' hs' => ⟨rfl, b + Int.ofNat i, ?_⟩⟩
    subst hie
    exact hs'
theorem ap_main (hk : metN k = fOf kd) : TG Try.prog 3 Try.f15.ntmps tlA (sA0 nK nC X0 Y0 X1 Y1 a b c e lP cP k r d v lK cK zK lC cC zC ks cs px)
    (RetG Try.prog 3 Try.f15 fun u h n => u = resV a b c e (Nat.beq ((e - b).toNat * (c - a).toNat) 0) ((e - b).toNat * (c - a).toNat) ∧ h = resH nK nC ks cs px (Nat.beq ((e - b).toNat * (c - a).toNat) 0) (oR kd nK nC X0 Y0 X1 a b c k r d v lC ks cs px ((e - b).toNat * (c - a).toNat)) ∧ n = resN (Nat.beq ((e - b).toNat * (c - a).toNat) 0)) := by
  obtain ⟨L2, h2⟩ := ap_u2 kd nK nC X0 Y0 X1 Y1 a b c e lP cP k r d v lK cK zK lC cC zC ks cs px hk
  refine TG_isN1 2 (XG hs) mo (by kernel_rfl) h2 (by simp) ?_
  refine TG_seq' (by kernel_rfl) ?_
  refine TG_isSeq (XG hs) mo anyR (by kernel_rfl) (by kernel_rfl) (ap_y0 nK nC X0 Y0 X1 Y1 a b c e lP cP k r d v lK cK zK lC cC zC ks cs px kd) fun g hg _ => ?_
  rw [List.mem_singleton] at hg; subst hg
  refine ⟨by simp, fun s' hs' => TG_norm hs' ?_⟩
  refine TG_block (i := 1) (by kernel_rfl) (TG_mono (ap_outer hs kd nK nC X0 Y0 X1 Y1 a b c e lP cP k r d v lK cK zK lC cC zC ks cs px hA) ?_)
  rintro z s' ⟨rfl, yy, hs2⟩
  rw [outOf_exit]
  simp only [andThen]
  refine TG_norm hs2 ?_
  refine TG_ret (XG hs) mo _ (by kernel_rfl) (ap_en nK nC X0 Y0 X1 Y1 a b c e lP cP k r d v lK cK zK lC cC zC ks cs px kd _ _ _ _) fun g hg hc => ?_
  rw [List.mem_singleton] at hg; subst hg
  exact ⟨by simp, _, _, _, rfl, rfl, rfl, rfl⟩
end
end Go.Proofs.Ytadejpmecljjpaa
namespace Go.Proofs.Ytadejpmecljjpaa
open Go Go.Eng
theorem within_iff' {x lo hi : Int} : within x lo hi = true ↔ lo ≤ x ∧ x ≤ hi := by
  unfold within; rw [Bool.and_eq_true, decide_eq_true_iff, decide_eq_true_iff]
def kdOf (k : Int) : Kd := if k = 1 then .cv else if k = 5 then .ton else if k = 6 then .inv else if k = 7 then .thr else if k = 8 then .off else .rk
theorem metN_kd (k : Int) : metN k = fOf (kdOf k) := by
  unfold metN kdOf
  split
  · rfl
  · split
    · rfl
    · split
      · rfl
      · split
        · rfl
        · split <;> rfl
theorem validK {k r d v : Int} {lK : Nat} {ks : List Int} {lC : Nat} {cs : List Int} (h : validB k r d v lK ks lC cs = true) :
    (k = 1 ∧ (0 ≤ r ∧ r ≤ 3) ∧ sq r = lK) ∨ ((k = 2 ∨ k = 3 ∨ k = 4) ∧ (0 ≤ r ∧ r ≤ 3)) ∨ ((k = 5 ∨ k = 6 ∨ k = 7) ∧ r = 0) ∨ (k = 8 ∧ (-3 ≤ r ∧ r ≤ 3) ∧ (-3 ≤ v ∧ v ≤ 3)) := by
  rcases kinds k with rfl | rfl | rfl | rfl | rfl | rfl | rfl | rfl | q
  · simp [validB, chV, chB] at h
    have hr := within_iff'.1 h.1
    refine .inl ⟨rfl, hr, ?_⟩
    have h2 := h.2.1
    have : r = 0 ∨ r = 1 ∨ r = 2 ∨ r = 3 := by omega
    rcases this with rfl | rfl | rfl | rfl
    · have e : w64 (side 0 * side 0) = 1 := by decide
      rw [e] at h2; show 1 = lK; omega
    · have e : w64 (side 1 * side 1) = 9 := by decide
      rw [e] at h2; show 9 = lK; omega
    · have e : w64 (side 2 * side 2) = 25 := by decide
      rw [e] at h2; show 25 = lK; omega
    · have e : w64 (side 3 * side 3) = 49 := by decide
      rw [e] at h2; show 49 = lK; omega
  · simp [validB, chV, chB] at h
    exact .inr (.inl ⟨.inl rfl, within_iff'.1 h.1⟩)
  · simp [validB, chV, chB] at h
    exact .inr (.inl ⟨.inr (.inl rfl), within_iff'.1 h.1⟩)
  · simp [validB, chV, chB] at h
    exact .inr (.inl ⟨.inr (.inr rfl), within_iff'.1 h.1⟩)
  · simp [validB, chV, chB] at h
    exact .inr (.inr (.inl ⟨.inl rfl, h.2.1⟩))
  · simp [validB, chV, chB] at h
    exact .inr (.inr (.inl ⟨.inr (.inl rfl), h.1⟩))
  · simp [validB, chV, chB] at h
    exact .inr (.inr (.inl ⟨.inr (.inr rfl), h.2.1⟩))
  · simp [validB, chV, chB] at h
    exact .inr (.inr (.inr ⟨rfl, within_iff'.1 h.1, within_iff'.1 h.2.1⟩))
  · rw [validB_o r d v lK ks lC cs q] at h; cases h
def m20 (x : Int) : Prop := -1048576 ≤ x ∧ x ≤ 1048576
theorem admB_iff {a b c d : Int} (h : admB a b c d = true) : m20 a ∧ m20 b ∧ m20 c ∧ m20 d := by
  unfold admB at h
  simp only [Bool.and_eq_true] at h
  exact ⟨within_iff'.1 h.1, within_iff'.1 h.2.1, within_iff'.1 h.2.2.1, within_iff'.1 h.2.2.2⟩
theorem emptyB_f {a b c d : Int} (h : emptyB a b c d = false) : a < c ∧ b < d := by
  unfold emptyB at h
  simp only [Bool.or_eq_false_iff, decide_eq_false_iff_not] at h
  omega
theorem emptyB_t {a b c d : Int} (h : emptyB a b c d = true) : c ≤ a ∨ d ≤ b := by
  unfold emptyB at h
  simp only [Bool.or_eq_true, decide_eq_true_iff] at h
  omega
theorem emptyB_lt {a b c d : Int} (h1 : a < c) (h2 : b < d) : emptyB a b c d = false := by
  unfold emptyB
  simp only [Bool.or_eq_false_iff, decide_eq_false_iff_not]
  omega
theorem insB_f {a b c d e f g h : Int} (hi : insB a b c d e f g h = true) (he : emptyB a b c d = false) : e ≤ a ∧ c ≤ g ∧ f ≤ b ∧ d ≤ h := by
  unfold insB at hi
  rw [he, Bool.false_or] at hi
  simp only [Bool.and_eq_true, decide_eq_true_iff] at hi
  exact hi
theorem mul_bd {W H : Int} (hW : 0 ≤ W) (hW2 : W ≤ 2097152) (hH : 0 ≤ H) (hH2 : H ≤ 2097152) : 0 ≤ W * H ∧ W * H ≤ 4398046511104 :=
  ⟨Int.mul_nonneg hW hH, by
    have := Int.mul_le_mul hW2 hH2 hH (show (0 : Int) ≤ 2097152 by omega)
    have e : (2097152 : Int) * 2097152 = 4398046511104 := by decide
    rw [e] at this; exact this⟩
theorem areI_eq {a b c d : Int} (ha : m20 a) (hb : m20 b) (hc : m20 c) (hd : m20 d) (h1 : a < c) (h2 : b < d) : areI a b c d = (c - a) * (d - b) := by
  obtain ⟨a1, a2⟩ := ha
  obtain ⟨b1, b2⟩ := hb
  obtain ⟨c1, c2⟩ := hc
  obtain ⟨d1, d2⟩ := hd
  unfold areI
  rw [emptyB_lt h1 h2, if_neg (by simp), w64_id (x := c - a) (by omega) (by omega), w64_id (x := d - b) (by omega) (by omega)]
  obtain ⟨q1, q2⟩ := mul_bd (W := c - a) (H := d - b) (by omega) (by omega) (by omega) (by omega)
  exact w64_id (by omega) (by omega)
theorem idx_in {X0 Y0 X1 Y1 x y : Int} (h0 : m20 X0) (h1 : m20 Y0) (h2 : m20 X1) (h3 : m20 Y1) (x1 : X0 ≤ x) (x2 : x < X1) (y1 : Y0 ≤ y) (y2 : y < Y1) :
    idxE X0 Y0 X1 x y = (y - Y0) * (X1 - X0) + (x - X0) ∧ 0 ≤ idxE X0 Y0 X1 x y ∧ idxE X0 Y0 X1 x y < (X1 - X0) * (Y1 - Y0) := by
  obtain ⟨a1, a2⟩ := h0
  obtain ⟨b1, b2⟩ := h1
  obtain ⟨c1, c2⟩ := h2
  obtain ⟨d1, d2⟩ := h3
  have e1 : w64 (y - Y0) = y - Y0 := w64_id (by omega) (by omega)
  have e2 : w64 (X1 - X0) = X1 - X0 := w64_id (by omega) (by omega)
  obtain ⟨q1, q2⟩ := mul_bd (W := y - Y0) (H := X1 - X0) (by omega) (by omega) (by omega) (by omega)
  have q3 : (y - Y0 + 1) * (X1 - X0) ≤ (Y1 - Y0) * (X1 - X0) := Int.mul_le_mul_of_nonneg_right (by omega) (by omega)
  rw [Int.add_mul, Int.one_mul, Int.mul_comm (Y1 - Y0)] at q3
  have e3 : idxE X0 Y0 X1 x y = (y - Y0) * (X1 - X0) + (x - X0) := by
    unfold idxE
    rw [e1, e2, w64_id (x := (y - Y0) * (X1 - X0)) (by omega) (by omega), w64_id (x := (y - Y0) * (X1 - X0) + x) (by omega) (by omega), w64_id (by omega) (by omega)]
    omega
  rw [e3]
  exact ⟨rfl, by omega, by omega⟩
structure SrcOk (X0 Y0 X1 Y1 : Int) (lP : Nat) (px : List Int) : Prop where
  adm : admB X0 Y0 X1 Y1 = true
  len : (lP : Int) = areI X0 Y0 X1 Y1
  row : lP * 4 ≤ px.length
theorem SrcOk.at {X0 Y0 X1 Y1 x y : Int} {lP : Nat} {px : List Int} (s : SrcOk X0 Y0 X1 Y1 lP px) (x1 : X0 ≤ x) (x2 : x < X1) (y1 : Y0 ≤ y) (y2 : y < Y1) : 0 ≤ idxE X0 Y0 X1 x y ∧ idxE X0 Y0 X1 x y < Int.ofNat lP ∧ (idxE X0 Y0 X1 x y).toNat * 4 + 4 ≤ px.length := by
  obtain ⟨h0, h1, h2, h3⟩ := admB_iff s.adm
  obtain ⟨_, q1, q2⟩ := idx_in h0 h1 h2 h3 x1 x2 y1 y2
  rw [← areI_eq h0 h1 h2 h3 (by omega) (by omega), ← s.len] at q2
  have := s.row
  refine ⟨q1, q2, by omega⟩
theorem SrcOk.atA {X0 Y0 X1 Y1 x y : Int} {lP : Nat} {px : List Int} (s : SrcOk X0 Y0 X1 Y1 lP px) (x1 : X0 ≤ x) (x2 : x < X1) (y1 : Y0 ≤ y) (y2 : y < Y1) : ∀ p ∈ atA lP px (idxE X0 Y0 X1 x y), p := by
  obtain ⟨q1, q2, q3⟩ := s.at x1 x2 y1 y2
  simp only [Proofs.Ytadejpmecljjpaa.atA, List.mem_cons, List.not_mem_nil, or_false]
  rintro p (rfl | rfl)
  · exact ⟨q1, q2⟩
  · omega
theorem SrcOk.win {X0 Y0 X1 Y1 x y : Int} {lP : Nat} {px : List Int} (s : SrcOk X0 Y0 X1 Y1 lP px) (R : Nat) (hR : R ≤ 3) (x1 : X0 ≤ x - R) (x2 : x + R < X1) (y1 : Y0 ≤ y - R) (y2 : y + R < Y1) : WinOk X0 Y0 X1 x y R lP px := by
  obtain ⟨⟨a1, a2⟩, ⟨b1, b2⟩, ⟨c1, c2⟩, ⟨d1, d2⟩⟩ := admB_iff s.adm
  refine ⟨hR, ⟨by omega, by omega⟩, ⟨by omega, by omega⟩, fun m hm => ?_⟩
  have h1 : m % (2 * R + 1) < 2 * R + 1 := Nat.mod_lt _ (by omega)
  have h2 : m / (2 * R + 1) < 2 * R + 1 := Nat.div_lt_of_lt_mul hm
  unfold winI
  generalize m % (2 * R + 1) = p at h1
  generalize m / (2 * R + 1) = q at h2
  have e1 : Int.ofNat R = (R : Int) := rfl
  have e2 : Int.ofNat p = (p : Int) := rfl
  have e3 : Int.ofNat q = (q : Int) := rfl
  rw [e1, e2, e3]
  exact s.at (by omega) (by omega) (by omega) (by omega)
theorem ap_valid {nK nC : Bool} {X0 Y0 X1 Y1 a b c e : Int} {lP : Nat} {k r d v : Int} {lK lC : Nat} {ks cs px : List Int} (hv : validB k r d v (ln nK lK) (rw' nK ks) (ln nC lC) (rw' nC cs) = true)
    (hf : ∀ p ∈ fa4 nK nC lK lC ks cs, p) (hs : SrcOk X0 Y0 X1 Y1 lP px) (hr : admB a b c e = true) (hz : areI a b c e ≤ 262144)
    (hin : insB (areaQ true k r v a b c e (-1)).1 (areaQ true k r v a b c e (-1)).2.1 (areaQ true k r v a b c e (-1)).2.2.1 (areaQ true k r v a b c e (-1)).2.2.2 X0 Y0 X1 Y1 = true) :
    ApOk (kdOf k) nK nC X0 Y0 X1 a b c e lP k r v lK lC ks cs px := by
  obtain ⟨r0, r1, r2, r3⟩ := admB_iff hr
  obtain ⟨a1, a2⟩ := id r0
  obtain ⟨b1, b2⟩ := id r1
  obtain ⟨c1, c2⟩ := id r2
  obtain ⟨d1, d2⟩ := id r3
  have hsz : (e - b).toNat * (c - a).toNat ≤ 262144 := by
    cases he : emptyB a b c e with
    | true =>
      rcases emptyB_t he with q | q
      · rw [show (c - a).toNat = 0 by omega]; omega
      · rw [show (e - b).toNat = 0 by omega]; omega
    | false =>
      obtain ⟨q1, q2⟩ := emptyB_f he
      rw [areI_eq r0 r1 r2 r3 q1 q2] at hz
      have h1 : ((c - a).toNat : Int) = c - a := Int.toNat_of_nonneg (by omega)
      have h2 : ((e - b).toNat : Int) = e - b := Int.toNat_of_nonneg (by omega)
      rw [← h1, ← h2] at hz
      have : (((e - b).toNat * (c - a).toNat : Nat) : Int) ≤ 262144 := by rw [Int.natCast_mul, Int.mul_comm]; exact hz
      omega
  refine ⟨⟨by omega, by omega⟩, ⟨by omega, by omega⟩, ⟨by omega, by omega⟩, ⟨by omega, by omega⟩, hsz, fun x y x1 x2 y1 y2 => ?_⟩
  have he : emptyB a b c e = false := emptyB_lt (by omega) (by omega)
  have hq : ¬ (true = false ∨ emptyB a b c e = true) := by rw [he]; simp
  rcases validK hv with ⟨rfl, ⟨g1, g2⟩, g3⟩ | ⟨hk, ⟨g1, g2⟩⟩ | ⟨hk, g⟩ | ⟨rfl, ⟨g1, g2⟩, ⟨g3, g4⟩⟩
  · obtain ⟨R, rfl⟩ := Int.eq_ofNat_of_zero_le g1
    have hA : areaQ true 1 (R : Int) v a b c e (-1) = (a - R, b - R, c + R, e + R) := by
      unfold areaQ
      rw [if_neg hq, if_pos (by decide)]
      unfold growQ
      rw [he, if_neg (by simp)]
      unfold normQ
      rw [w64_id (by omega) (by omega), w64_id (by omega) (by omega), w64_id (by omega) (by omega), w64_id (by omega) (by omega), emptyB_lt (by omega) (by omega), if_neg (by simp)]
    rw [hA] at hin
    obtain ⟨i1, i2, i3, i4⟩ := insB_f hin (emptyB_lt (by show a - (R : Int) < c + R; omega) (by show b - (R : Int) < e + R; omega))
    have hw := hs.win R (by omega) (x := x) (y := y) (by simp only at i1; omega) (by simp only at i2; omega) (by simp only at i3; omega) (by simp only at i4; omega)
    intro p hp
    have hp : p ∈ kdOk X0 Y0 X1 lP px 1 (R : Int) v (ln nK lK) (rw' nK ks) (ln nC lC) (rw' nC cs) x y .cv := hp
    simp only [kdOk, List.mem_cons, List.not_mem_nil, or_false] at hp
    rcases hp with rfl | rfl | rfl | rfl
    · exact g1
    · exact hw
    · exact Nat.le_of_eq g3
    · exact hf _ (by simp [fa4])
  · obtain ⟨R, rfl⟩ := Int.eq_ofNat_of_zero_le g1
    have hA : areaQ true k (R : Int) v a b c e (-1) = (a - R, b - R, c + R, e + R) := by
      unfold areaQ
      rw [if_neg hq, if_pos (within_iff'.2 (by omega))]
      unfold growQ
      rw [he, if_neg (by simp)]
      unfold normQ
      rw [w64_id (by omega) (by omega), w64_id (by omega) (by omega), w64_id (by omega) (by omega), w64_id (by omega) (by omega), emptyB_lt (by omega) (by omega), if_neg (by simp)]
    rw [hA] at hin
    obtain ⟨i1, i2, i3, i4⟩ := insB_f hin (emptyB_lt (by show a - (R : Int) < c + R; omega) (by show b - (R : Int) < e + R; omega))
    have hw := hs.win R (by omega) (x := x) (y := y) (by simp only at i1; omega) (by simp only at i2; omega) (by simp only at i3; omega) (by simp only at i4; omega)
    have hkd : kdOf k = .rk := by rcases hk with rfl | rfl | rfl <;> rfl
    intro p hp
    rw [hkd] at hp
    have hp : p ∈ kdOk X0 Y0 X1 lP px k (R : Int) v (ln nK lK) (rw' nK ks) (ln nC lC) (rw' nC cs) x y .rk := hp
    simp only [kdOk, List.mem_cons, List.not_mem_nil, or_false] at hp
    rcases hp with rfl | rfl | rfl
    · exact g1
    · exact hw
    · exact hk
  · have hA : areaQ true k r v a b c e (-1) = (a, b, c, e) := by
      unfold areaQ
      rw [if_neg hq, if_neg (fun q => by have := within_iff'.1 q; omega), if_neg (by omega)]
    rw [hA] at hin
    obtain ⟨i1, i2, i3, i4⟩ := insB_f hin he
    have hat := hs.atA (x := x) (y := y) (by simp only at i1; omega) (by simp only at i2; omega) (by simp only at i3; omega) (by simp only at i4; omega)
    rcases hk with rfl | rfl | rfl
    · intro p hp
      have hp : p ∈ kdOk X0 Y0 X1 lP px 5 r v (ln nK lK) (rw' nK ks) (ln nC lC) (rw' nC cs) x y .ton := hp
      simp only [kdOk] at hp
      rcases List.mem_append.1 hp with hp | hp
      · exact hat p hp
      · simp only [lens, List.mem_cons, List.not_mem_nil, or_false] at hp
        rcases hp with rfl | rfl <;> exact hf _ (by simp [fa4])
    · exact hat
    · exact hat
  · have hA : areaQ true 8 r v a b c e (-1) = (a - r, b - v, c - r, e - v) := by
      unfold areaQ
      rw [if_neg hq, if_neg (by decide), if_pos rfl]
      unfold moveQ
      rw [he, if_neg (by simp)]
      unfold normQ
      have h1 : w64 (-1 * r) = -r := by rw [w64_id (by omega) (by omega)]; omega
      have h2 : w64 (-1 * v) = -v := by rw [w64_id (by omega) (by omega)]; omega
      rw [h1, h2, w64_id (by omega) (by omega), w64_id (by omega) (by omega), w64_id (by omega) (by omega), w64_id (by omega) (by omega), emptyB_lt (by omega) (by omega), if_neg (by simp)]
      rfl
    rw [hA] at hin
    obtain ⟨i1, i2, i3, i4⟩ := insB_f hin (emptyB_lt (by show a - r < c - r; omega) (by show b - v < e - v; omega))
    intro p hp
    have hp : p ∈ atA lP px (offI X0 Y0 X1 x y r v) := hp
    unfold offI at hp
    rw [w64_id (by omega) (by omega), w64_id (by omega) (by omega)] at hp
    exact hs.atA (by simp only at i1; omega) (by simp only at i2; omega) (by simp only at i3; omega) (by simp only at i4; omega) p hp
end Go.Proofs.Ytadejpmecljjpaa
namespace Go.Proofs.Ytadejpmecljjpaa
open Go Go.Eng
theorem fl_rel {E E' : Env} {k r d v : Int} {a b a' b' : V} {x : Value} (ha : ∀ y, vrel E a y → vrel E' a' y) (hb : ∀ y, vrel E b y → vrel E' b' y)
    (h : vrel E (.agg [.int .i64 k, .int .i64 r, a, .int .i64 d, .int .i64 v, b]) x) : vrel E' (.agg [.int .i64 k, .int .i64 r, a', .int .i64 d, .int .i64 v, b']) x := by
  obtain ⟨cs', h, rfl⟩ := h
  obtain ⟨y1, t1, r1, h, rfl⟩ := h
  obtain ⟨y2, t2, r2, h, rfl⟩ := h
  obtain ⟨y3, t3, r3, h, rfl⟩ := h
  obtain ⟨y4, t4, r4, h, rfl⟩ := h
  obtain ⟨y5, t5, r5, h, rfl⟩ := h
  obtain ⟨y6, t6, r6, h, rfl⟩ := h
  exact ⟨_, ⟨y1, _, r1, ⟨y2, _, r2, ⟨y3, _, ha _ r3, ⟨y4, _, r4, ⟨y5, _, r5, ⟨y6, _, hb _ r6, h, rfl⟩, rfl⟩, rfl⟩, rfl⟩, rfl⟩, rfl⟩, rfl⟩
theorem im_rel {E E' : Env} {X0 Y0 X1 Y1 : Int} {p p' : V} {x : Value} (hp : ∀ y, vrel E p y → vrel E' p' y)
    (h : vrel E (.agg [.int .i64 X0, .int .i64 Y0, .int .i64 X1, .int .i64 Y1, p]) x) : vrel E' (.agg [.int .i64 X0, .int .i64 Y0, .int .i64 X1, .int .i64 Y1, p']) x := by
  obtain ⟨cs', h, rfl⟩ := h
  obtain ⟨y1, t1, r1, h, rfl⟩ := h
  obtain ⟨y2, t2, r2, h, rfl⟩ := h
  obtain ⟨y3, t3, r3, h, rfl⟩ := h
  obtain ⟨y4, t4, r4, h, rfl⟩ := h
  obtain ⟨y5, t5, r5, h, rfl⟩ := h
  exact ⟨_, ⟨y1, _, r1, ⟨y2, _, r2, ⟨y3, _, r3, ⟨y4, _, r4, ⟨y5, _, hp _ r5, h, rfl⟩, rfl⟩, rfl⟩, rfl⟩, rfl⟩, rfl⟩
def oL : Option (List Int) → List (Nat × O) | none => [] | some ot => [(3, .own .u8 ot)]
def oN : Option (List Int) → Nat | none => 3 | some _ => 4
def oH (nK nC : Bool) (ks cs px : List Int) (o : Option (List Int)) : Tr O := hL (rowsR nK nC ks cs px ++ oL o)
theorem go_lo : ∀ (l : List (Nat × O)) (t : Tr O) (m : Nat), (∀ p ∈ l, p.1 < 3) → 3 ≤ m → (hL.go t l).get m = t.get m
  | [], t, m, _, _ => rfl
  | (j, v) :: r, t, m, hl, hm => by
    have hj : j < 3 := hl (j, v) (by simp)
    have ht : j < top := Nat.lt_of_lt_of_le hj (Nat.le_of_ble_eq_true (by kernel_rfl))
    show (hL.go (t.set j (some v)) r).get m = _
    rw [go_lo r _ m (fun p hp => hl p (by simp [hp])) hm, Tr.get_set_ne _ _ ht (by omega)]
theorem go_app : ∀ (l l2 : List (Nat × O)) (t : Tr O), hL.go t (l ++ l2) = hL.go (hL.go t l) l2
  | [], _, _ => rfl
  | (_, _) :: r, l2, _ => go_app r l2 _
theorem rowsR_lo (nK nC : Bool) (ks cs px : List Int) : ∀ p ∈ rowsR nK nC ks cs px, p.1 < 3 := by
  intro p hp
  cases nK <;> cases nC <;> simp [rowsR, opQ] at hp <;> rcases hp with rfl | hp <;> first | (simp; done) | (rcases hp with rfl | rfl <;> simp) | (subst hp; simp)
theorem oH_get (nK nC : Bool) (ks cs px : List Int) (o : Option (List Int)) (m : Nat) (hm : 3 ≤ m) : (oH nK nC ks cs px o).get m = (hL (oL o)).get m := by
  unfold oH
  show (hL.go .nil (rowsR nK nC ks cs px ++ oL o)).get m = _
  rw [go_app]
  have h1 := go_lo (rowsR nK nC ks cs px) .nil m (rowsR_lo nK nC ks cs px) hm
  cases o with
  | none => exact h1
  | some ot =>
    show ((hL.go .nil (rowsR nK nC ks cs px)).set 3 (some (.own .u8 ot))).get m = ((Tr.nil : Tr O).set 3 (some (.own .u8 ot))).get m
    have ht : 3 < top := Nat.le_of_ble_eq_true (by kernel_rfl)
    rw [Tr.get_set _ _ _ ht, Tr.get_set _ _ _ ht, h1]
theorem emb_res (nK nC : Bool) (ks cs px : List Int) (u : V) (o : Option (List Int)) (h : Tr O) (n : Nat) : emb [] 3 (u, oH nK nC ks cs px o, oN o) h n = emb [] 3 (u, hL (oL o), oN o) h n := by
  have hν : nuOf [] (oH nK nC ks cs px o) 3 n = nuOf [] (hL (oL o)) 3 n := by
    funext m
    unfold nuOf
    cases hb : Nat.blt m 3 with
    | true => rfl
    | false =>
      have hm : 3 ≤ m := by
        rcases Nat.lt_or_ge m 3 with q | q
        · have := Nat.ble_eq_true_of_le q
          have hb' : Nat.ble (m + 1) 3 = false := hb
          rw [hb'] at this; cases this
        · exact q
      simp only
      rw [oH_get nK nC ks cs px o m hm]
  unfold emb
  simp only
  rw [hν]
  cases o with
  | none => rfl
  | some ot =>
    show (match u.rn (nuOf [] (hL (oL (some ot))) 3 n) with
      | some v => match embH (nuOf [] (hL (oL (some ot))) 3 n) (oH nK nC ks cs px (some ot)) 3 n 1 3 h with
        | some h2 => some (v, h2, n + 1)
        | none => none
      | none => none) = (match u.rn (nuOf [] (hL (oL (some ot))) 3 n) with
      | some v => match embH (nuOf [] (hL (oL (some ot))) 3 n) (hL (oL (some ot))) 3 n 1 3 h with
        | some h2 => some (v, h2, n + 1)
        | none => none
      | none => none)
    have e : embH (nuOf [] (hL (oL (some ot))) 3 n) (oH nK nC ks cs px (some ot)) 3 n 1 3 h = embH (nuOf [] (hL (oL (some ot))) 3 n) (hL (oL (some ot))) 3 n 1 3 h := by
      unfold embH
      rw [oH_get nK nC ks cs px (some ot) 3 (Nat.le_refl _)]
      rfl
    rw [e]
abbrev AF := Int → Int → Int → Int → Int → Int → Int → Int → Nat → List Int → Int → Int → Int → Int → Nat → List Int → Nat → List Int → List Prop × V × Option (List Int)
def apSpec (S : AF) (args : List V) (h : Tr O) (n : Nat) : Option (List Prop × V × Tr O × Nat) := match args with
  | [.agg [.int .i64 k, .int .i64 r, sK, .int .i64 d, .int .i64 v, sC], .agg [.int .i64 X0, .int .i64 Y0, .int .i64 X1, .int .i64 Y1, P], .agg [.int .i64 a, .int .i64 b, .int .i64 c, .int .i64 e]] =>
    match rowK .u8 4 (softT h) P with
    | some (some _, lP, px) => match rowK .i64 1 (softT h) sK with
      | some (_, lK, ks) => match rowK .i64 1 (softT h) sC with
        | some (_, lC, cs) => match S X0 Y0 X1 Y1 a b c e lP px k r d v lK ks lC cs with
          | (A, u, o) => match emb [] 3 (u, hL (oL o), oN o) h n with
            | some q => some (A, q)
            | none => none
        | none => none
      | none => none
    | _ => none
  | _ => none
theorem apSpec_ok {S : AF} (run : ∀ X0 Y0 X1 Y1 a b c e lP cP px k r d v lK ks lC cs (nK nC : Bool) cK zK cC zC, (∀ p ∈ (S X0 Y0 X1 Y1 a b c e lP px k r d v (ln nK lK) (rw' nK ks) (ln nC lC) (rw' nC cs)).1, p) →
      TG Try.prog 3 Try.f15.ntmps cdAp (stAp nK nC X0 Y0 X1 Y1 a b c e lP cP k r d v lK cK zK lC cC zC ks cs px) (RetG Try.prog 3 Try.f15 fun u h n => u = (S X0 Y0 X1 Y1 a b c e lP px k r d v (ln nK lK) (rw' nK ks) (ln nC lC) (rw' nC cs)).2.1 ∧ h = oH nK nC ks cs px (S X0 Y0 X1 Y1 a b c e lP px k r d v (ln nK lK) (rw' nK ks) (ln nC lC) (rw' nC cs)).2.2 ∧ n = oN (S X0 Y0 X1 Y1 a b c e lP px k r d v (ln nK lK) (rw' nK ks) (ln nC lC) (rw' nC cs)).2.2)) : OneW Try.prog 15 (apSpec S) := by
  refine ⟨Nat.le_of_ble_eq_true (by kernel_rfl), fun args h n A u h' n' e0 hA E w args' ra g hd hc => ?_⟩
  unfold apSpec at e0
  split at e0
  case h_2 => cases e0
  rename_i k r sK' d v sC' X0 Y0 X1 Y1 P a b c e
  split at e0
  case h_2 => cases e0
  rename_i aP lP px hP
  split at e0
  case h_2 => cases e0
  rename_i aK lK ks hK
  split at e0
  case h_2 => cases e0
  rename_i aC lC cs hC
  split at e0
  rename_i A1 u1 o hS
  split at e0
  case h_2 => cases e0
  rename_i q he
  simp only [Option.some.injEq, Prod.mk.injEq] at e0
  obtain ⟨rfl, rfl⟩ := e0
  obtain ⟨y, ys, r0, ⟨y2, ys2, r1, rs, rfl⟩, rfl⟩ := ra
  rcases rowK_cases hP with ⟨_, _, _, q, _, _⟩ | ⟨mP, oP, cP, fP, rfl, qP, hmP, hdP⟩
  · cases q
  rcases rowK_cases hK with ⟨cK, zK, rfl, rfl, rfl, rfl⟩ | ⟨mK, oK, cK, fK', rfl, rfl, hmK, hdK⟩ <;> rcases rowK_cases hC with ⟨cC, zC, rfl, rfl, rfl, rfl⟩ | ⟨mC, oC, cC, fC, rfl, rfl, hmC, hdC⟩
  · obtain ⟨g2, d2, n2⟩ := rows_ok (soft_good g) [none, none, some (mP, oP)] [none, none, some (.u8, px)] (Nat.le_of_ble_eq_true rfl) (by
      intro j k' ks' hj
      match j, hj with
      | 0, hj => cases hj
      | 1, hj => cases hj
      | 2, hj => cases hj; exact ⟨mP, oP, fP, rfl, hmP, hdP⟩
      | j + 3, hj => simp at hj)
    have hS' : S X0 Y0 X1 Y1 a b c e lP px k r d v 0 [] 0 [] = (A1, u1, o) := hS
    have ht := run X0 Y0 X1 Y1 a b c e lP cP px k r d v 0 [] 0 [] true true cK zK cC zC (by show ∀ p ∈ (S X0 Y0 X1 Y1 a b c e lP px k r d v 0 [] 0 []).1, p; rw [hS']; exact hA)
    have ht' : TG Try.prog 3 Try.f15.ntmps cdAp (stAp true true X0 Y0 X1 Y1 a b c e lP cP k r d v 0 cK zK 0 cC zC [] [] px) (RetG Try.prog 3 Try.f15 fun u h n => u = u1 ∧ h = oH true true [] [] px o ∧ n = oN o) := by
      have e1 : (S X0 Y0 X1 Y1 a b c e lP px k r d v 0 [] 0 []).2.1 = u1 := by rw [hS']
      have e2 : (S X0 Y0 X1 Y1 a b c e lP px k r d v 0 [] 0 []).2.2 = o := by rw [hS']
      rw [← e1, ← e2]; exact ht
    rw [← emb_res true true [] [] px u1 o h n] at he
    exact (calls_of_TG1 mo po Try.func15 (by kernel_rfl) (by kernel_rfl) _ _ _ ht' (E := E.rows [none, none, some (mP, oP)]) ⟨y, _, fl_rel (fun _ q => nil_any q) (fun _ q => nil_any q) r0, ⟨y2, _, im_rel (fun _ q => rows_slc rfl q) r1, frees_noE (by rfl) rs, rfl⟩, rfl⟩ g2 d2).mono fun en w' c => emb_ok (E1 := E.rows [none, none, some (mP, oP)]) g hd rfl (fun m m' _ q => by cases q) n2 he c
  · obtain ⟨g2, d2, n2⟩ := rows_ok (soft_good g) [none, some (mC, oC), some (mP, oP)] [none, some (.i64, cs), some (.u8, px)] (Nat.le_of_ble_eq_true rfl) (by
      intro j k' ks' hj
      match j, hj with
      | 0, hj => cases hj
      | 1, hj => cases hj; exact ⟨mC, oC, fC, rfl, hmC, hdC⟩
      | 2, hj => cases hj; exact ⟨mP, oP, fP, rfl, hmP, hdP⟩
      | j + 3, hj => simp at hj)
    have hS' : S X0 Y0 X1 Y1 a b c e lP px k r d v 0 [] lC cs = (A1, u1, o) := hS
    have ht := run X0 Y0 X1 Y1 a b c e lP cP px k r d v 0 [] lC cs true false cK zK cC 0 (by show ∀ p ∈ (S X0 Y0 X1 Y1 a b c e lP px k r d v 0 [] lC cs).1, p; rw [hS']; exact hA)
    have ht' : TG Try.prog 3 Try.f15.ntmps cdAp (stAp true false X0 Y0 X1 Y1 a b c e lP cP k r d v 0 cK zK lC cC 0 [] cs px) (RetG Try.prog 3 Try.f15 fun u h n => u = u1 ∧ h = oH true false [] cs px o ∧ n = oN o) := by
      have e1 : (S X0 Y0 X1 Y1 a b c e lP px k r d v 0 [] lC cs).2.1 = u1 := by rw [hS']
      have e2 : (S X0 Y0 X1 Y1 a b c e lP px k r d v 0 [] lC cs).2.2 = o := by rw [hS']
      rw [← e1, ← e2]; exact ht
    rw [← emb_res true false [] cs px u1 o h n] at he
    exact (calls_of_TG1 mo po Try.func15 (by kernel_rfl) (by kernel_rfl) _ _ _ ht' (E := E.rows [none, some (mC, oC), some (mP, oP)]) ⟨y, _, fl_rel (fun _ q => nil_any q) (fun _ q => rows_slc rfl q) r0, ⟨y2, _, im_rel (fun _ q => rows_slc rfl q) r1, frees_noE (by rfl) rs, rfl⟩, rfl⟩ g2 d2).mono fun en w' c => emb_ok (E1 := E.rows [none, some (mC, oC), some (mP, oP)]) g hd rfl (fun m m' _ q => by cases q) n2 he c
  · obtain ⟨g2, d2, n2⟩ := rows_ok (soft_good g) [some (mK, oK), none, some (mP, oP)] [some (.i64, ks), none, some (.u8, px)] (Nat.le_of_ble_eq_true rfl) (by
      intro j k' ks' hj
      match j, hj with
      | 0, hj => cases hj; exact ⟨mK, oK, fK', rfl, hmK, hdK⟩
      | 1, hj => cases hj
      | 2, hj => cases hj; exact ⟨mP, oP, fP, rfl, hmP, hdP⟩
      | j + 3, hj => simp at hj)
    have hS' : S X0 Y0 X1 Y1 a b c e lP px k r d v lK ks 0 [] = (A1, u1, o) := hS
    have ht := run X0 Y0 X1 Y1 a b c e lP cP px k r d v lK ks 0 [] false true cK 0 cC zC (by show ∀ p ∈ (S X0 Y0 X1 Y1 a b c e lP px k r d v lK ks 0 []).1, p; rw [hS']; exact hA)
    have ht' : TG Try.prog 3 Try.f15.ntmps cdAp (stAp false true X0 Y0 X1 Y1 a b c e lP cP k r d v lK cK 0 0 cC zC ks [] px) (RetG Try.prog 3 Try.f15 fun u h n => u = u1 ∧ h = oH false true ks [] px o ∧ n = oN o) := by
      have e1 : (S X0 Y0 X1 Y1 a b c e lP px k r d v lK ks 0 []).2.1 = u1 := by rw [hS']
      have e2 : (S X0 Y0 X1 Y1 a b c e lP px k r d v lK ks 0 []).2.2 = o := by rw [hS']
      rw [← e1, ← e2]; exact ht
    rw [← emb_res false true ks [] px u1 o h n] at he
    exact (calls_of_TG1 mo po Try.func15 (by kernel_rfl) (by kernel_rfl) _ _ _ ht' (E := E.rows [some (mK, oK), none, some (mP, oP)]) ⟨y, _, fl_rel (fun _ q => rows_slc rfl q) (fun _ q => nil_any q) r0, ⟨y2, _, im_rel (fun _ q => rows_slc rfl q) r1, frees_noE (by rfl) rs, rfl⟩, rfl⟩ g2 d2).mono fun en w' c => emb_ok (E1 := E.rows [some (mK, oK), none, some (mP, oP)]) g hd rfl (fun m m' _ q => by cases q) n2 he c
  · obtain ⟨g2, d2, n2⟩ := rows_ok (soft_good g) [some (mK, oK), some (mC, oC), some (mP, oP)] [some (.i64, ks), some (.i64, cs), some (.u8, px)] (Nat.le_of_ble_eq_true rfl) (by
      intro j k' ks' hj
      match j, hj with
      | 0, hj => cases hj; exact ⟨mK, oK, fK', rfl, hmK, hdK⟩
      | 1, hj => cases hj; exact ⟨mC, oC, fC, rfl, hmC, hdC⟩
      | 2, hj => cases hj; exact ⟨mP, oP, fP, rfl, hmP, hdP⟩
      | j + 3, hj => simp at hj)
    have hS' : S X0 Y0 X1 Y1 a b c e lP px k r d v lK ks lC cs = (A1, u1, o) := hS
    have ht := run X0 Y0 X1 Y1 a b c e lP cP px k r d v lK ks lC cs false false cK 0 cC 0 (by show ∀ p ∈ (S X0 Y0 X1 Y1 a b c e lP px k r d v lK ks lC cs).1, p; rw [hS']; exact hA)
    have ht' : TG Try.prog 3 Try.f15.ntmps cdAp (stAp false false X0 Y0 X1 Y1 a b c e lP cP k r d v lK cK 0 lC cC 0 ks cs px) (RetG Try.prog 3 Try.f15 fun u h n => u = u1 ∧ h = oH false false ks cs px o ∧ n = oN o) := by
      have e1 : (S X0 Y0 X1 Y1 a b c e lP px k r d v lK ks lC cs).2.1 = u1 := by rw [hS']
      have e2 : (S X0 Y0 X1 Y1 a b c e lP px k r d v lK ks lC cs).2.2 = o := by rw [hS']
      rw [← e1, ← e2]; exact ht
    rw [← emb_res false false ks cs px u1 o h n] at he
    exact (calls_of_TG1 mo po Try.func15 (by kernel_rfl) (by kernel_rfl) _ _ _ ht' (E := E.rows [some (mK, oK), some (mC, oC), some (mP, oP)]) ⟨y, _, fl_rel (fun _ q => rows_slc rfl q) (fun _ q => rows_slc rfl q) r0, ⟨y2, _, im_rel (fun _ q => rows_slc rfl q) r1, frees_noE (by rfl) rs, rfl⟩, rfl⟩ g2 d2).mono fun en w' c => emb_ok (E1 := E.rows [some (mK, oK), some (mC, oC), some (mP, oP)]) g hd rfl (fun m m' _ q => by cases q) n2 he c
def apErr (X0 Y0 X1 Y1 a b c e : Int) (lP : Nat) (k r d v : Int) (lK : Nat) (ks : List Int) (lC : Nat) (cs : List Int) : Int :=
  if validB k r d v lK ks lC cs = false then 1 else if admB X0 Y0 X1 Y1 = false then 1 else if (lP : Int) ≠ areI X0 Y0 X1 Y1 then 1 else if admB a b c e = false then 1 else if areI a b c e > 262144 then 45
  else if insB (areaQ true k r v a b c e (-1)).1 (areaQ true k r v a b c e (-1)).2.1 (areaQ true k r v a b c e (-1)).2.2.1 (areaQ true k r v a b c e (-1)).2.2.2 X0 Y0 X1 Y1 = false then 1 else 0
def fa0 (lK : Nat) (ks : List Int) (lC : Nat) (cs : List Int) : List Prop := [lK ≤ ks.length, lK ≤ 1000, lC ≤ cs.length, lC ≤ 1000]
theorem pBq_t {x : Bool} (h : x = true) : pBq x true := by unfold pBq; rw [h]
theorem pBq_f {x : Bool} (h : x = false) : pBq x false := by unfold pBq; rw [h]
section
variable (hs : Sorts Try.prog 97) (nK nC : Bool) (X0 Y0 X1 Y1 a b c e : Int) (lP cP : Nat) (k r d v : Int) (lK cK zK lC cC zC : Nat) (ks cs px : List Int)
abbrev aE : Int := apErr X0 Y0 X1 Y1 a b c e lP k r d v (ln nK lK) (rw' nK ks) (ln nC lC) (rw' nC cs)
variable (hf : ∀ p ∈ fa4 nK nC lK lC ks cs, p)
include hs hf
theorem ap_err (hE : aE nK nC X0 Y0 X1 Y1 a b c e lP k r d v lK lC ks cs ≠ 0) : TG Try.prog 3 Try.f15.ntmps cdAp (stAp nK nC X0 Y0 X1 Y1 a b c e lP cP k r d v lK cK zK lC cC zC ks cs px) (RetG Try.prog 3 Try.f15 fun u h n => u = errV (aE nK nC X0 Y0 X1 Y1 a b c e lP k r d v lK lC ks cs) ∧ h = oH nK nC ks cs px none ∧ n = 3) := by
  have hneg : ∀ {x : Bool}, x = true → (!x) = false := fun h => by rw [h]; rfl
  have hneg' : ∀ {x : Bool}, x = false → (!x) = true := fun h => by rw [h]; rfl
  unfold aE apErr at hE ⊢
  by_cases h0 : validB k r d v (ln nK lK) (rw' nK ks) (ln nC lC) (rw' nC cs) = false
  · rw [if_pos h0]
    obtain ⟨L, hr⟩ := ap_e0 nK nC X0 Y0 X1 Y1 a b c e lP cP k r d v lK cK zK lC cC zC ks cs px
    refine TG_ret (XG hs) mo _ (by kernel_rfl) hr fun g hg _ => ?_
    rw [List.mem_singleton] at hg; subst hg
    refine ⟨fun p hp => ?_, _, _, _, rfl, rfl, rfl, rfl⟩
    rcases List.mem_append.1 hp with hp | hp
    · exact hf p hp
    · simp only [List.mem_cons, List.not_mem_nil, or_false] at hp
      rcases hp with rfl
      · exact pBq_t (hneg' h0)
  rw [if_neg h0] at hE ⊢
  have h0 : validB k r d v (ln nK lK) (rw' nK ks) (ln nC lC) (rw' nC cs) = true := Bool.of_not_eq_false h0
  by_cases h1 : admB X0 Y0 X1 Y1 = false
  · rw [if_pos h1]
    obtain ⟨L, hr⟩ := ap_e1 nK nC X0 Y0 X1 Y1 a b c e lP cP k r d v lK cK zK lC cC zC ks cs px
    refine TG_ret (XG hs) mo _ (by kernel_rfl) hr fun g hg _ => ?_
    rw [List.mem_singleton] at hg; subst hg
    refine ⟨fun p hp => ?_, _, _, _, rfl, rfl, rfl, rfl⟩
    rcases List.mem_append.1 hp with hp | hp
    · exact hf p hp
    · simp only [List.mem_cons, List.not_mem_nil, or_false] at hp
      rcases hp with rfl | rfl
      · exact pBq_f (hneg h0)
      · exact pBq_t (hneg' h1)
  rw [if_neg h1] at hE ⊢
  have h1 : admB X0 Y0 X1 Y1 = true := Bool.of_not_eq_false h1
  by_cases h2 : (lP : Int) ≠ areI X0 Y0 X1 Y1
  · rw [if_pos h2]
    obtain ⟨L, hr⟩ := ap_e2 nK nC X0 Y0 X1 Y1 a b c e lP cP k r d v lK cK zK lC cC zC ks cs px
    refine TG_ret (XG hs) mo _ (by kernel_rfl) hr fun g hg _ => ?_
    rw [List.mem_singleton] at hg; subst hg
    refine ⟨fun p hp => ?_, _, _, _, rfl, rfl, rfl, rfl⟩
    rcases List.mem_append.1 hp with hp | hp
    · exact hf p hp
    · simp only [List.mem_cons, List.not_mem_nil, or_false] at hp
      rcases hp with rfl | rfl | rfl
      · exact pBq_f (hneg h0)
      · exact pBq_f (hneg h1)
      · exact pBq_t (bne_iff_ne.2 h2)
  rw [if_neg h2] at hE ⊢
  have h2 : (lP : Int) = areI X0 Y0 X1 Y1 := Classical.not_not.1 h2
  by_cases h3 : admB a b c e = false
  · rw [if_pos h3]
    obtain ⟨L, hr⟩ := ap_e3 nK nC X0 Y0 X1 Y1 a b c e lP cP k r d v lK cK zK lC cC zC ks cs px
    refine TG_ret (XG hs) mo _ (by kernel_rfl) hr fun g hg _ => ?_
    rw [List.mem_singleton] at hg; subst hg
    refine ⟨fun p hp => ?_, _, _, _, rfl, rfl, rfl, rfl⟩
    rcases List.mem_append.1 hp with hp | hp
    · exact hf p hp
    · simp only [List.mem_cons, List.not_mem_nil, or_false] at hp
      rcases hp with rfl | rfl | rfl | rfl
      · exact pBq_f (hneg h0)
      · exact pBq_f (hneg h1)
      · exact pBq_f (bne_eq_false_iff_eq.2 h2)
      · exact pBq_t (hneg' h3)
  rw [if_neg h3] at hE ⊢
  have h3 : admB a b c e = true := Bool.of_not_eq_false h3
  by_cases h4 : areI a b c e > 262144
  · rw [if_pos h4]
    obtain ⟨L, hr⟩ := ap_e4 nK nC X0 Y0 X1 Y1 a b c e lP cP k r d v lK cK zK lC cC zC ks cs px
    refine TG_ret (XG hs) mo _ (by kernel_rfl) hr fun g hg _ => ?_
    rw [List.mem_singleton] at hg; subst hg
    refine ⟨fun p hp => ?_, _, _, _, rfl, rfl, rfl, rfl⟩
    rcases List.mem_append.1 hp with hp | hp
    · exact hf p hp
    · simp only [List.mem_cons, List.not_mem_nil, or_false] at hp
      rcases hp with rfl | rfl | rfl | rfl | rfl
      · exact pBq_f (hneg h0)
      · exact pBq_f (hneg h1)
      · exact pBq_f (bne_eq_false_iff_eq.2 h2)
      · exact pBq_f (hneg h3)
      · exact pBq_t (decide_eq_true h4)
  rw [if_neg h4] at hE ⊢
  by_cases h5 : insB (areaQ true k r v a b c e (-1)).1 (areaQ true k r v a b c e (-1)).2.1 (areaQ true k r v a b c e (-1)).2.2.1 (areaQ true k r v a b c e (-1)).2.2.2 X0 Y0 X1 Y1 = false
  · rw [if_pos h5]
    have h5' : insB (ndQ nK nC a b c e k r d v lK lC ks cs).1 (ndQ nK nC a b c e k r d v lK lC ks cs).2.1 (ndQ nK nC a b c e k r d v lK lC ks cs).2.2.1 (ndQ nK nC a b c e k r d v lK lC ks cs).2.2.2 X0 Y0 X1 Y1 = false := by
      unfold ndQ vB; rw [h0]; exact h5
    obtain ⟨L, hr⟩ := ap_e5 nK nC X0 Y0 X1 Y1 a b c e lP cP k r d v lK cK zK lC cC zC ks cs px
    refine TG_ret (XG hs) mo _ (by kernel_rfl) hr fun g hg _ => ?_
    rw [List.mem_singleton] at hg; subst hg
    refine ⟨fun p hp => ?_, _, _, _, rfl, rfl, rfl, rfl⟩
    rcases List.mem_append.1 hp with hp | hp
    · exact hf p hp
    rcases List.mem_append.1 hp with hp | hp
    · simp only [List.mem_cons, List.not_mem_nil, or_false] at hp
      rcases hp with rfl | rfl | rfl | rfl | rfl
      · exact pBq_f (hneg h0)
      · exact pBq_f (hneg h1)
      · exact pBq_f (bne_eq_false_iff_eq.2 h2)
      · exact pBq_f (hneg h3)
      · exact pBq_f (decide_eq_false h4)
    rcases List.mem_append.1 hp with hp | hp
    · exact hf p hp
    · rw [List.mem_singleton] at hp; subst hp; exact pBq_t (hneg' h5')
  rw [if_neg h5] at hE ⊢
  have h5 : insB (areaQ true k r v a b c e (-1)).1 (areaQ true k r v a b c e (-1)).2.1 (areaQ true k r v a b c e (-1)).2.2.1 (areaQ true k r v a b c e (-1)).2.2.2 X0 Y0 X1 Y1 = true := Bool.of_not_eq_false h5
  exact absurd rfl hE
end
end Go.Proofs.Ytadejpmecljjpaa
