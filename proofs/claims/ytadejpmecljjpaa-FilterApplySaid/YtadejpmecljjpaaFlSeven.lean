/- Filter laws anew, part U: convolutions at a place. No conditions. -/
import Derived.Test.YtadejpmecljjpaaFlSix
set_option linter.unusedVariables false
set_option linter.unusedSimpArgs false
set_option linter.unusedSectionVars false
namespace Go.Proofs.Ytadejpmecljjpaa
open Go Go.Eng
noncomputable abbrev cdCv : Code := bodyOf Try.f68
noncomputable abbrev a2Cv : Code := seqL (tailN 2 cdCv)
noncomputable abbrev rgCv : Code := inner (seqR a2Cv)
noncomputable abbrev asgCv : Code := rA rgCv
noncomputable abbrev bdyCv : Code := rB rgCv
noncomputable abbrev endCv : Code := seqR (tailN 2 cdCv)
noncomputable abbrev cdWn : Code := bodyOf Try.f105
noncomputable abbrev oloopW : Code := inner (tailN 2 cdWn)
noncomputable abbrev obodyW : Code := inner oloopW
noncomputable abbrev blkW : Code := seqL (seqR obodyW)
noncomputable abbrev in1W : Code := inner blkW
noncomputable abbrev iloopW : Code := inner (seqR in1W)
noncomputable abbrev ibodyW : Code := inner iloopW
def opQ (b : Bool) (i : Nat) (ks : List Int) : List (Nat × O) := match b with | true => [] | false => [(i, .ints .i64 ks)]
def bxS (nK nC : Bool) (X0 Y0 X1 Y1 : Int) (lP cP : Nat) (k r d v : Int) (lK cK zK lC cC zC : Nat) : O := .cells [.int .i64 X0, .int .i64 Y0, .int .i64 X1, .int .i64 Y1, .slc (some (2, 0)) lP cP 4, .int .i64 k, .int .i64 r, slQ nK 0 lK cK zK, .int .i64 d, .int .i64 v, slQ nC 1 lC cC zC]
def ptrs : List V := [.ptr (some (6, 0)), .ptr (some (7, 0)), .ptr (some (8, 0))]
def frCv : List (Nat × V) := [(3, .ptr (some (3, 0))), (6, .ptr (some (4, 0))), (7, .ptr (some (5, 0))), (17, .fn (.func 105) [] ptrs)]
def z8 : O := .cells [.int .u8 0, .int .u8 0, .int .u8 0, .int .u8 0]
def smO (S : Q4) : O := .cells [.int .i64 S.1, .int .i64 S.2.1, .int .i64 S.2.2.1, .int .i64 S.2.2.2]
section
variable (nC : Bool) (X0 Y0 X1 Y1 x y : Int) (lP cP : Nat) (k r d v : Int) (lK cK zK lC cC zC : Nat) (ks cs px : List Int)
def rowsC : List (Nat × O) := [(0, .ints .i64 ks)] ++ (opQ nC 1 cs ++ [(2, .ints .u8 px)])
def bxC : O := bxS false nC X0 Y0 X1 Y1 lP cP k r d v lK cK zK lC cC zC
def sCv1 : St := stG [(1, .int .i64 x), (2, .int .i64 y), (3, .ptr (some (3, 0))), (6, .ptr (some (4, 0))), (7, .ptr (some (5, 0)))] (hL (rowsC nC ks cs px ++ [(3, bxC nC X0 Y0 X1 Y1 lP cP k r d v lK cK zK lC cC zC), (4, z8), (5, smO (0, 0, 0, 0))])) 6
def lsCv (S : Q4) : List (Nat × O) := rowsC nC ks cs px ++ [(3, bxC nC X0 Y0 X1 Y1 lP cP k r d v lK cK zK lC cC zC), (4, z8), (5, smO S), (6, .cells [.int .i64 y]), (7, bxC nC X0 Y0 X1 Y1 lP cP k r d v lK cK zK lC cC zC), (8, .cells [.int .i64 x])]
def sCv2 : St := stG frCv (hL (lsCv nC X0 Y0 X1 Y1 x y lP cP k r d v lK cK zK lC cC zC ks cs px (0, 0, 0, 0))) 9
noncomputable def hWv (S : Q4) : Tr O := hL (lsCv nC X0 Y0 X1 Y1 x y lP cP k r d v lK cK zK lC cC zC ks cs px S ++ [(9, .dfr), (10, .loop true none (Eng.frL frCv) [18, 19] asgCv bdyCv)])
def wA : List (Nat × V) := [(0, .fn (.yield 10) [] []), (1, .ptr (some (6, 0))), (2, .ptr (some (7, 0))), (3, .ptr (some (8, 0)))]
noncomputable def sWo (S : Q4) (m : Nat) (vv : Int) : St := stG (wA ++ [(5, .int .i64 (Int.ofNat m)), (6, .int .i64 vv)]) (hWv nC X0 Y0 X1 Y1 x y lP cP k r d v lK cK zK lC cC zC ks cs px S) 11
noncomputable def sWi (S : Q4) (m : Nat) (vv uu : Int) : St := stG (wA ++ [(5, .int .i64 (Int.ofNat m)), (6, .int .i64 vv), (7, .int .i64 uu)]) (hWv nC X0 Y0 X1 Y1 x y lP cP k r d v lK cK zK lC cC zC ks cs px S) 11
def wgt (m : Nat) (i : Int) : Int := w64 (ks.getD (0 + (Int.ofNat m).toNat * 1) 0 * w64 (pq px i 3))
def cvStep (m : Nat) (i : Int) (S : Q4) : Q4 := (w64 (S.1 + w64 (wgt ks px m i * w64 (pq px i 0))), w64 (S.2.1 + w64 (wgt ks px m i * w64 (pq px i 1))), w64 (S.2.2.1 + w64 (wgt ks px m i * w64 (pq px i 2))), w64 (S.2.2.2 + w64 (wgt ks px m i * 1)))
def ixs8 : List Prop := [ix4 0, ix4 0, ix4 1, ix4 1, ix4 2, ix4 2, ix4 3, ix4 3]
def upP (a b : Int) : Prop := V.int .i64 (w64 (a + 1)) = V.int .i64 b
theorem cv_u1 : RunIs Try.prog csA [] 1000 3 Try.f68 [1, 2, 3, 6, 7] (headN 2 cdCv) (startSt [srcV false nC X0 Y0 X1 Y1 lP cP k r d v lK cK zK lC cC zC, .int .i64 x, .int .i64 y] (rH3 false nC ks cs px) 3) []
    [([], [], .to .normal (sCv1 nC X0 Y0 X1 Y1 x y lP cP k r d v lK cK zK lC cC zC ks cs px))] := by
  unfold RunIs; cases nC <;> kernel_rfl
theorem cv_u2 : RunIs Try.prog csA [] 1000 3 Try.f68 [3, 6, 7, 17] (seqL a2Cv) (sCv1 nC X0 Y0 X1 Y1 x y lP cP k r d v lK cK zK lC cC zC ks cs px) []
    [([], [], .to .normal (sCv2 nC X0 Y0 X1 Y1 x y lP cP k r d v lK cK zK lC cC zC ks cs px))] := by
  unfold RunIs; cases nC <;> kernel_rfl
theorem cv_heap : rHeap rgCv (sCv2 nC X0 Y0 X1 Y1 x y lP cP k r d v lK cK zK lC cC zC ks cs px) = hWv nC X0 Y0 X1 Y1 x y lP cP k r d v lK cK zK lC cC zC ks cs px (0, 0, 0, 0) := by
  cases nC <;> kernel_rfl
theorem cv_w1 (S : Q4) (vv : Int) : RunIs Try.prog csA [(6, .give (.int .i64 vv))] 1000 11 Try.f105 [0, 1, 2, 3, 5, 6] (headN 2 cdWn) (startSt (.fn (.yield 10) [] [] :: ptrs) (hWv nC X0 Y0 X1 Y1 x y lP cP k r d v lK cK zK lC cC zC ks cs px S) 11) []
    [([], [V.int .i64 (w64 (y - r)) = V.int .i64 vv], .to .normal (sWo nC X0 Y0 X1 Y1 x y lP cP k r d v lK cK zK lC cC zC ks cs px S 0 vv))] := by
  unfold RunIs; cases nC <;> kernel_rfl
theorem cv_w2 (S : Q4) (m : Nat) (vv : Int) : RunIs Try.prog csA [(19, .split)] 1000 11 Try.f105 [0, 1, 2, 3, 5, 6] (seqL obodyW) (sWo nC X0 Y0 X1 Y1 x y lP cP k r d v lK cK zK lC cC zC ks cs px S m vv) []
    [([(decide (vv ≤ w64 (y + r)), true)], [], .to .normal (sWo nC X0 Y0 X1 Y1 x y lP cP k r d v lK cK zK lC cC zC ks cs px S m vv)),
     ([(decide (vv ≤ w64 (y + r)), false)], [], .to (.exit 0) (sWo nC X0 Y0 X1 Y1 x y lP cP k r d v lK cK zK lC cC zC ks cs px S m vv))] := by
  unfold RunIs; cases nC <;> kernel_rfl
theorem cv_w3 (S : Q4) (m : Nat) (vv uu : Int) : RunIs Try.prog csA [(7, .give (.int .i64 uu))] 1000 11 Try.f105 [0, 1, 2, 3, 5, 6, 7] (seqL in1W) (sWo nC X0 Y0 X1 Y1 x y lP cP k r d v lK cK zK lC cC zC ks cs px S m vv) []
    [([], [V.int .i64 (w64 (x - r)) = V.int .i64 uu], .to .normal (sWi nC X0 Y0 X1 Y1 x y lP cP k r d v lK cK zK lC cC zC ks cs px S m vv uu))] := by
  unfold RunIs; cases nC <;> kernel_rfl
theorem cv_w4 (S : Q4) (m : Nat) (vv uu : Int) : RunIs Try.prog csA [(33, .split), (45, .give (.int .i64 (Int.ofNat (m + 1)))), (35, .give (.int .i64 (uu + 1)))] 1000 11 Try.f105 [0, 1, 2, 3, 5, 6, 7] ibodyW (sWi nC X0 Y0 X1 Y1 x y lP cP k r d v lK cK zK lC cC zC ks cs px S m vv uu) []
    [([(decide (uu ≤ w64 (x + r)), true)], atA lP px (idxE X0 Y0 X1 uu vv) ++ ([(0 ≤ Int.ofNat m ∧ Int.ofNat m < Int.ofNat lK), 0 + (Int.ofNat m).toNat * 1 < ks.length] ++ (ixs8 ++ [upP (Int.ofNat m) (Int.ofNat (m + 1)), upP uu (uu + 1)])),
      .to .normal (sWi nC X0 Y0 X1 Y1 x y lP cP k r d v lK cK zK lC cC zC ks cs px (cvStep ks px m (idxE X0 Y0 X1 uu vv) S) (m + 1) vv (uu + 1))),
     ([(decide (uu ≤ w64 (x + r)), false)], [], .to (.exit 2) (sWi nC X0 Y0 X1 Y1 x y lP cP k r d v lK cK zK lC cC zC ks cs px S m vv uu))] := by
  unfold RunIs; cases nC <;> kernel_rfl
theorem cv_w5 (S : Q4) (m : Nat) (vv uu : Int) : RunIs Try.prog csA [(21, .give (.int .i64 (vv + 1)))] 1000 11 Try.f105 [0, 1, 2, 3, 5, 6] (seqR (seqR obodyW)) (sWi nC X0 Y0 X1 Y1 x y lP cP k r d v lK cK zK lC cC zC ks cs px S m vv uu) []
    [([], [upP vv (vv + 1)], .to .normal (sWo nC X0 Y0 X1 Y1 x y lP cP k r d v lK cK zK lC cC zC ks cs px S m (vv + 1)))] := by
  unfold RunIs; cases nC <;> kernel_rfl
theorem cv_wend (S : Q4) (m : Nat) (vv : Int) : retG Try.prog 11 Try.f105 (sWo nC X0 Y0 X1 Y1 x y lP cP k r d v lK cK zK lC cC zC ks cs px S m vv) = some (.tup [], hWv nC X0 Y0 X1 Y1 x y lP cP k r d v lK cK zK lC cC zC ks cs px S, 11) := by
  cases nC <;> kernel_rfl
theorem cv_good (S : Q4) : rGood (sCv2 nC X0 Y0 X1 Y1 x y lP cP k r d v lK cK zK lC cC zC ks cs px) (hWv nC X0 Y0 X1 Y1 x y lP cP k r d v lK cK zK lC cC zC ks cs px S) = true := by
  cases nC <;> kernel_rfl
def cvP (S : Q4) : V := mkP (u8w (roundI S.1 S.2.2.2)) (u8w (roundI S.2.1 S.2.2.2)) (u8w (roundI S.2.2.1 S.2.2.2)) (u8w (roundI S.2.2.2 d))
theorem cv_end (S : Q4) : ∃ L1 h1 n1 h2 n2, RunIs Try.prog csA [(53, .split)] 1000 3 Try.f68 [] endCv (rEnd (sCv2 nC X0 Y0 X1 Y1 x y lP cP k r d v lK cK zK lC cC zC ks cs px) (hWv nC X0 Y0 X1 Y1 x y lP cP k r d v lK cK zK lC cC zC ks cs px S) 11) L1
    [([(roundI S.2.2.2 d == 0, true)], [], .ret (mkP 0 0 0 0) h1 n1), ([(roundI S.2.2.2 d == 0, false)], [], .ret (cvP d S) h2 n2)] := by
  refine ⟨[.int .i64 S.2.1, .int .i64 S.2.2.2, .int .i64 S.2.2.1, .int .i64 S.2.2.1, .int .i64 S.2.2.2, .int .i64 S.2.2.2], rH3 false nC ks cs px, 3, rH3 false nC ks cs px, 3, ?_⟩
  unfold RunIs; cases nC <;> kernel_rfl
end
end Go.Proofs.Ytadejpmecljjpaa
namespace Go.Proofs.Ytadejpmecljjpaa
open Go Go.Eng
def winI (X0 Y0 X1 x y : Int) (R m : Nat) : Int := idxE X0 Y0 X1 (x - Int.ofNat R + Int.ofNat (m % (2 * R + 1))) (y - Int.ofNat R + Int.ofNat (m / (2 * R + 1)))
def cvS (ks px : List Int) (w : Nat → Int) : Nat → Q4
  | 0 => (0, 0, 0, 0)
  | m + 1 => cvStep ks px m (w m) (cvS ks px w m)
def big (x : Int) : Prop := -1000000000000 ≤ x ∧ x ≤ 1000000000000
theorem w64_id {x : Int} (h1 : -9000000000000000000 ≤ x) (h2 : x ≤ 9000000000000000000) : w64 x = x := wrap64 (by omega) (by omega)
theorem upI {a : Int} (h1 : -8000000000000000000 ≤ a) (h2 : a ≤ 8000000000000000000) : upP a (a + 1) := by unfold upP; rw [w64_id (by omega) (by omega)]
theorem upN {m : Nat} (h : m < 1000000) : upP (Int.ofNat m) (Int.ofNat (m + 1)) := up_ok h
theorem ixs8_ok : ∀ a ∈ ixs8, a := by
  simp only [ixs8, List.mem_cons, List.not_mem_nil, or_false]
  rintro a (rfl | rfl | rfl | rfl | rfl | rfl | rfl | rfl) <;> exact ⟨by omega, by omega⟩
structure WinOk (X0 Y0 X1 x y : Int) (R lP : Nat) (px : List Int) : Prop where
  r : R ≤ 3
  bx : big x
  bY : big y
  inn : ∀ m, m < (2 * R + 1) * (2 * R + 1) → 0 ≤ winI X0 Y0 X1 x y R m ∧ winI X0 Y0 X1 x y R m < Int.ofNat lP ∧ (winI X0 Y0 X1 x y R m).toNat * 4 + 4 ≤ px.length
theorem WinOk.at {X0 Y0 X1 x y : Int} {R lP : Nat} {px : List Int} (h : WinOk X0 Y0 X1 x y R lP px) {m : Nat} (hm : m < (2 * R + 1) * (2 * R + 1)) : ∀ a ∈ atA lP px (winI X0 Y0 X1 x y R m), a := by
  obtain ⟨h1, h2, h3⟩ := h.inn m hm
  simp only [atA, List.mem_cons, List.not_mem_nil, or_false]
  rintro a (rfl | rfl)
  · exact ⟨h1, h2⟩
  · omega
theorem winI_ab (X0 Y0 X1 x y : Int) (R a b : Nat) (hb : b < 2 * R + 1) : winI X0 Y0 X1 x y R (a * (2 * R + 1) + b) = idxE X0 Y0 X1 (x - Int.ofNat R + Int.ofNat b) (y - Int.ofNat R + Int.ofNat a) := by
  unfold winI
  have h1 : (a * (2 * R + 1) + b) % (2 * R + 1) = b := by rw [Nat.mul_comm, Nat.mul_add_mod, Nat.mod_eq_of_lt hb]
  have h2 : (a * (2 * R + 1) + b) / (2 * R + 1) = a := by rw [Nat.mul_comm, Nat.mul_add_div (by omega), Nat.div_eq_of_lt hb]; omega
  rw [h1, h2]
theorem outOf_exit {i : Nat} {Q : Exit → St → Prop} {s : St} : outOf i Q (.exit i) s = Q .normal s := by simp [outOf]
section
variable (nC : Bool) (X0 Y0 X1 Y1 x y : Int) (lP cP : Nat) (k d v : Int) (R lK cK zK lC cC zC : Nat) (ks cs px : List Int)
variable (hw : WinOk X0 Y0 X1 x y R lP px) (hK : (2 * R + 1) * (2 * R + 1) ≤ lK) (hKs : lK ≤ ks.length)
abbrev wS (m : Nat) : Q4 := cvS ks px (winI X0 Y0 X1 x y R) m
noncomputable abbrev sI (m : Nat) (vv uu : Int) : St := sWi nC X0 Y0 X1 Y1 x y lP cP k (Int.ofNat R) d v lK cK zK lC cC zC ks cs px (wS X0 Y0 X1 x y R ks px m) m vv uu
noncomputable abbrev sOt (m : Nat) (vv : Int) : St := sWo nC X0 Y0 X1 Y1 x y lP cP k (Int.ofNat R) d v lK cK zK lC cC zC ks cs px (wS X0 Y0 X1 x y R ks px m) m vv
include hw hK hKs
theorem cv_inner (a : Nat) (ha : a < 2 * R + 1) : TG Try.prog 11 Try.f105.ntmps iloopW (sI nC X0 Y0 X1 Y1 x y lP cP k d v R lK cK zK lC cC zC ks cs px (a * (2 * R + 1)) (y - Int.ofNat R + Int.ofNat a) (x - Int.ofNat R))
    (fun z s' => z = .exit 2 ∧ ∃ uu, normG 11 [0, 1, 2, 3, 5, 6, 7] s' = some (sI nC X0 Y0 X1 Y1 x y lP cP k d v R lK cK zK lC cC zC ks cs px ((a + 1) * (2 * R + 1)) (y - Int.ofNat R + Int.ofNat a) uu)) := by
  obtain ⟨hr, ⟨hx1, hx2⟩, _, _⟩ := id hw
  have hR : Int.ofNat R = (R : Int) := rfl
  refine TG_loopI XA mo [0, 1, 2, 3, 5, 6, 7] anyR (fun k' s => ∃ b, k' = 2 * R + 1 - b ∧ b ≤ 2 * R + 1 ∧ s = sI nC X0 Y0 X1 Y1 x y lP cP k d v R lK cK zK lC cC zC ks cs px (a * (2 * R + 1) + b) (y - Int.ofNat R + Int.ofNat a) (x - Int.ofNat R + Int.ofNat b)) (F := 1000) (fn := Try.f105) (by kernel_rfl) (by kernel_rfl) ?_ (2 * R + 1) ⟨0, rfl, by omega, by
      have e : x - Int.ofNat R + Int.ofNat 0 = x - Int.ofNat R := by show x - (R : Int) + ((0 : Nat) : Int) = _; omega
      rw [e]; rfl⟩
  rintro k' s ⟨b, hk, hb, rfl⟩
  refine ⟨_, _, _, cv_w4 nC X0 Y0 X1 Y1 x y lP cP k (Int.ofNat R) d v lK cK zK lC cC zC ks cs px _ _ _ _, fun g hg hc => ?_⟩
  simp only [List.mem_cons, List.not_mem_nil, or_false] at hg
  have hB : Int.ofNat b = (b : Int) := rfl
  have htest : (x - Int.ofNat R + Int.ofNat b ≤ w64 (x + Int.ofNat R)) ↔ b < 2 * R + 1 := by
    rw [w64_id (by rw [hR]; omega) (by rw [hR]; omega), hR, hB]; omega
  rcases hg with rfl | rfl
  · have hlt : b < 2 * R + 1 := htest.1 (of_decide_eq_true (hc _ (List.mem_singleton.2 rfl)))
    have hm : a * (2 * R + 1) + b < (2 * R + 1) * (2 * R + 1) := by
      have := Nat.mul_le_mul_right (2 * R + 1) (show a + 1 ≤ 2 * R + 1 by omega)
      rw [Nat.add_mul, Nat.one_mul] at this
      omega
    have hsz : (2 * R + 1) * (2 * R + 1) ≤ 7 * 7 := Nat.mul_le_mul (by omega) (by omega)
    have e := winI_ab X0 Y0 X1 x y R a b hlt
    have hat := hw.at hm
    rw [e] at hat
    refine ⟨fun p hp => ?_, 2 * R + 1 - (b + 1), by omega, b + 1, rfl, by omega, ?_⟩
    · rcases List.mem_append.1 hp with hp | hp
      · exact hat p hp
      · rcases List.mem_append.1 hp with hp | hp
        · simp only [List.mem_cons, List.not_mem_nil, or_false] at hp
          rcases hp with rfl | rfl
          · exact in_ofNat (by omega)
          · show 0 + (a * (2 * R + 1) + b) * 1 < ks.length; omega
        · rcases List.mem_append.1 hp with hp | hp
          · exact ixs8_ok p hp
          · simp only [List.mem_cons, List.not_mem_nil, or_false] at hp
            rcases hp with rfl | rfl
            · exact upN (by omega)
            · exact upI (by rw [hR, hB]; omega) (by rw [hR, hB]; omega)
    · have e1 : x - Int.ofNat R + Int.ofNat (b + 1) = x - Int.ofNat R + Int.ofNat b + 1 := by show x - (R : Int) + ((b + 1 : Nat) : Int) = x - (R : Int) + (b : Int) + 1; omega
      have e2 : wS X0 Y0 X1 x y R ks px (a * (2 * R + 1) + (b + 1)) = cvStep ks px (a * (2 * R + 1) + b) (idxE X0 Y0 X1 (x - Int.ofNat R + Int.ofNat b) (y - Int.ofNat R + Int.ofNat a)) (wS X0 Y0 X1 x y R ks px (a * (2 * R + 1) + b)) := by
        rw [← e]; rfl
      rw [e1]
      show _ = sWi nC X0 Y0 X1 Y1 x y lP cP k (Int.ofNat R) d v lK cK zK lC cC zC ks cs px (wS X0 Y0 X1 x y R ks px (a * (2 * R + 1) + (b + 1))) (a * (2 * R + 1) + (b + 1)) _ _
      rw [e2]; rfl
  · have hge : ¬ b < 2 * R + 1 := fun q => (of_decide_eq_false (hc _ (List.mem_singleton.2 rfl))) (htest.2 q)
    have hbe : b = 2 * R + 1 := by omega
    refine ⟨by simp, fun s' hs' => ⟨rfl, x - Int.ofNat R + Int.ofNat b, ?_⟩⟩
    have e : (a + 1) * (2 * R + 1) = a * (2 * R + 1) + b := by rw [Nat.add_mul, Nat.one_mul, hbe]
    rw [e]; exact hs'
theorem cv_outer : TG Try.prog 11 Try.f105.ntmps oloopW (sOt nC X0 Y0 X1 Y1 x y lP cP k d v R lK cK zK lC cC zC ks cs px 0 (y - Int.ofNat R))
    (fun z s' => z = .exit 0 ∧ ∃ vv, normG 11 [0, 1, 2, 3, 5, 6] s' = some (sOt nC X0 Y0 X1 Y1 x y lP cP k d v R lK cK zK lC cC zC ks cs px ((2 * R + 1) * (2 * R + 1)) vv)) := by
  obtain ⟨hr, ⟨hx1, hx2⟩, ⟨hy1, hy2⟩, _⟩ := id hw
  have hR : Int.ofNat R = (R : Int) := rfl
  have h0 : normG 11 [0, 1, 2, 3, 5, 6] (sOt nC X0 Y0 X1 Y1 x y lP cP k d v R lK cK zK lC cC zC ks cs px 0 (y - Int.ofNat R)) = some (sOt nC X0 Y0 X1 Y1 x y lP cP k d v R lK cK zK lC cC zC ks cs px 0 (y - Int.ofNat R)) := by
    clear hw hK hKs
    cases nC <;> kernel_rfl
  refine TG_loop_inv (fun k' s => ∃ a, k' = 2 * R + 1 - a ∧ a ≤ 2 * R + 1 ∧ ∃ L, normG 11 L s = some (sOt nC X0 Y0 X1 Y1 x y lP cP k d v R lK cK zK lC cC zC ks cs px (a * (2 * R + 1)) (y - Int.ofNat R + Int.ofNat a))) (by kernel_rfl) ?_ (2 * R + 1) ⟨0, rfl, by omega, [0, 1, 2, 3, 5, 6], by
      have e : y - Int.ofNat R + Int.ofNat 0 = y - Int.ofNat R := by show y - (R : Int) + ((0 : Nat) : Int) = _; omega
      rw [e, Nat.zero_mul]
      exact h0⟩
  rintro k' s ⟨a, hk, ha, L, hs⟩
  refine TG_norm hs ?_
  have hA : Int.ofNat a = (a : Int) := rfl
  have htest : (y - Int.ofNat R + Int.ofNat a ≤ w64 (y + Int.ofNat R)) ↔ a < 2 * R + 1 := by
    rw [w64_id (by rw [hR]; omega) (by rw [hR]; omega), hR, hA]; omega
  refine TG_isSeq XA mo anyR (by kernel_rfl) (by kernel_rfl) (cv_w2 nC X0 Y0 X1 Y1 x y lP cP k (Int.ofNat R) d v lK cK zK lC cC zC ks cs px _ _ _) fun g hg hc => ?_
  simp only [List.mem_cons, List.not_mem_nil, or_false] at hg
  rcases hg with rfl | rfl
  · have hlt : a < 2 * R + 1 := htest.1 (of_decide_eq_true (hc _ (List.mem_singleton.2 rfl)))
    refine ⟨by simp, fun s' hs' => TG_norm hs' ?_⟩
    refine TG_seq' (by kernel_rfl) ?_
    refine TG_block (i := 1) (by kernel_rfl) ?_
    refine TG_isSeq XA mo anyR (by kernel_rfl) (by kernel_rfl) (cv_w3 nC X0 Y0 X1 Y1 x y lP cP k (Int.ofNat R) d v lK cK zK lC cC zC ks cs px _ _ _ (x - Int.ofNat R)) fun g hg _ => ?_
    rw [List.mem_singleton] at hg; subst hg
    refine ⟨by
      intro p hp; rw [List.mem_singleton] at hp; subst hp
      rw [w64_id (by rw [hR]; omega) (by rw [hR]; omega)], fun s' hs' => TG_norm hs' ?_⟩
    refine TG_block (i := 2) (by kernel_rfl) ?_
    refine TG_mono (cv_inner nC X0 Y0 X1 Y1 x y lP cP k d v R lK cK zK lC cC zC ks cs px hw hK hKs a hlt) ?_
    rintro z s' ⟨rfl, uu, hs⟩
    rw [outOf_exit]
    simp only [outOf, andThen]
    refine TG_norm hs ?_
    refine TG_is XA mo anyR (by kernel_rfl) (cv_w5 nC X0 Y0 X1 Y1 x y lP cP k (Int.ofNat R) d v lK cK zK lC cC zC ks cs px _ _ _ _) fun g hg _ => ?_
    rw [List.mem_singleton] at hg; subst hg
    refine ⟨by
      intro p hp; rw [List.mem_singleton] at hp; subst hp
      exact upI (by rw [hR, hA]; omega) (by rw [hR, hA]; omega), fun s' hs' => ?_⟩
    refine ⟨2 * R + 1 - (a + 1), by omega, a + 1, rfl, by omega, [0, 1, 2, 3, 5, 6], ?_⟩
    have e : y - Int.ofNat R + Int.ofNat (a + 1) = y - Int.ofNat R + Int.ofNat a + 1 := by show y - (R : Int) + ((a + 1 : Nat) : Int) = y - (R : Int) + (a : Int) + 1; omega
    rw [e]; exact hs'
  · have hge : ¬ a < 2 * R + 1 := fun q => (of_decide_eq_false (hc _ (List.mem_singleton.2 rfl))) (htest.2 q)
    have hae : a = 2 * R + 1 := by omega
    refine ⟨by simp, fun s' hs' => ⟨rfl, y - Int.ofNat R + Int.ofNat a, ?_⟩⟩
    subst hae
    exact hs'
theorem cv_win : TG Try.prog 11 Try.f105.ntmps cdWn (startSt (.fn (.yield 10) [] [] :: ptrs) (hWv nC X0 Y0 X1 Y1 x y lP cP k (Int.ofNat R) d v lK cK zK lC cC zC ks cs px (0, 0, 0, 0)) 11)
    (RetG Try.prog 11 Try.f105 fun a b c => a = .tup [] ∧ b = hWv nC X0 Y0 X1 Y1 x y lP cP k (Int.ofNat R) d v lK cK zK lC cC zC ks cs px (wS X0 Y0 X1 x y R ks px ((2 * R + 1) * (2 * R + 1))) ∧ c = 11) := by
  obtain ⟨hr, _, ⟨hy1, hy2⟩, _⟩ := id hw
  have hR : Int.ofNat R = (R : Int) := rfl
  refine TG_isN1 2 XA mo (by kernel_rfl) (cv_w1 nC X0 Y0 X1 Y1 x y lP cP k (Int.ofNat R) d v lK cK zK lC cC zC ks cs px (0, 0, 0, 0) (y - Int.ofNat R)) ?_ ?_
  · intro p hp; rw [List.mem_singleton] at hp; subst hp
    rw [w64_id (by rw [hR]; omega) (by rw [hR]; omega)]
  refine TG_block (i := 0) (by kernel_rfl) (TG_monoN (cv_outer nC X0 Y0 X1 Y1 x y lP cP k d v R lK cK zK lC cC zC ks cs px hw hK hKs) ?_)
  rintro z s' ⟨rfl, vv, hs⟩
  refine ⟨_, _, hs, ?_⟩
  rw [outOf_exit]
  exact ⟨.inl rfl, _, _, _, cv_wend nC X0 Y0 X1 Y1 x y lP cP k (Int.ofNat R) d v lK cK zK lC cC zC ks cs px _ _ _, rfl, rfl, rfl⟩
def cvRes (d : Int) (S : Q4) : V := if roundI S.2.2.2 d = 0 then mkP 0 0 0 0 else cvP d S
theorem tgCv : TG Try.prog 3 Try.f68.ntmps cdCv (startSt [srcV false nC X0 Y0 X1 Y1 lP cP k (Int.ofNat R) d v lK cK zK lC cC zC, .int .i64 x, .int .i64 y] (rH3 false nC ks cs px) 3) (RetG Try.prog 3 Try.f68 fun a _ _ => a = cvRes d (wS X0 Y0 X1 x y R ks px ((2 * R + 1) * (2 * R + 1)))) := by
  refine TG_isN1 2 XA mo (by kernel_rfl) (cv_u1 nC X0 Y0 X1 Y1 x y lP cP k (Int.ofNat R) d v lK cK zK lC cC zC ks cs px) (by simp) ?_
  refine TG_seq' (by kernel_rfl) ?_
  refine TG_isSeq XA mo anyR (by kernel_rfl) (by kernel_rfl) (cv_u2 nC X0 Y0 X1 Y1 x y lP cP k (Int.ofNat R) d v lK cK zK lC cC zC ks cs px) fun g hg _ => ?_
  rw [List.mem_singleton] at hg; subst hg
  refine ⟨by simp, fun s' hs' => TG_norm hs' ?_⟩
  refine TG_block (i := 0) (by kernel_rfl) ?_
  refine TG_range (gf := 105) (lb := ptrs) (v := .tup []) (h' := hWv nC X0 Y0 X1 Y1 x y lP cP k (Int.ofNat R) d v lK cK zK lC cC zC ks cs px (wS X0 Y0 X1 x y R ks px ((2 * R + 1) * (2 * R + 1)))) (n' := 11) mo (by kernel_rfl) (by kernel_rfl) (by kernel_rfl) (by kernel_rfl) (by kernel_rfl) ?_ (cv_good nC X0 Y0 X1 Y1 x y lP cP k (Int.ofNat R) d v lK cK zK lC cC zC ks cs px _) ?_
  · intro E w args' ra g hd
    rw [cv_heap] at g ⊢
    exact calls_of_TG1 mo po Try.func105 (by kernel_rfl) (by kernel_rfl) _ _ _ (cv_win nC X0 Y0 X1 Y1 x y lP cP k d v R lK cK zK lC cC zC ks cs px hw hK hKs) ra g hd
  · simp only [outOf, andThen]
    obtain ⟨L1, h1, n1, h2, n2, hr⟩ := cv_end nC X0 Y0 X1 Y1 x y lP cP k (Int.ofNat R) d v lK cK zK lC cC zC ks cs px (wS X0 Y0 X1 x y R ks px ((2 * R + 1) * (2 * R + 1)))
    refine TG_ret XA mo _ (by kernel_rfl) hr fun g hg hc => ?_
    simp only [List.mem_cons, List.not_mem_nil, or_false] at hg
    rcases hg with rfl | rfl
    · have h := eq_of_beq (hc _ (List.mem_singleton.2 rfl))
      exact ⟨by simp, _, _, _, rfl, by rw [cvRes, if_pos h]⟩
    · have h : ¬ roundI (wS X0 Y0 X1 x y R ks px ((2 * R + 1) * (2 * R + 1))).2.2.2 d = 0 := by
        have := hc _ (List.mem_singleton.2 rfl)
        intro q
        rw [q] at this
        simp at this
      exact ⟨by simp, _, _, _, rfl, by rw [cvRes, if_neg h]⟩
end
def SCv : SF := fun X0 Y0 X1 _ lP px _ r d _ lK ks _ _ X => match r, X with
  | .ofNat R, [.int .i64 x, .int .i64 y] => some ([WinOk X0 Y0 X1 x y R lP px, (2 * R + 1) * (2 * R + 1) ≤ lK, lK ≤ ks.length], cvRes d (cvS ks px (winI X0 Y0 X1 x y R) ((2 * R + 1) * (2 * R + 1))))
  | _, _ => none
theorem cvRes_free (d : Int) (S : Q4) : (cvRes d S).free = true := by unfold cvRes; split <;> rfl
theorem pCv : PureA Try.prog 68 (srcSpec SCv) := by
  refine srcSpec_ok (Nat.le_of_ble_eq_true (by kernel_rfl)) Try.func68 (code := cdCv) (by kernel_rfl) (fun X0 Y0 X1 Y1 lP px k r d v lK ks lC cs X A u e => ?_) (fun X0 Y0 X1 Y1 lP px k r d v lK ks lC cs X A u nK nC cP cK zK cC zC e hA => ?_)
  · unfold SCv at e
    split at e
    · simp only [Option.some.injEq, Prod.mk.injEq] at e; obtain ⟨rfl, rfl⟩ := e
      exact ⟨cvRes_free _ _, rfl, by kernel_rfl⟩
    · cases e
  · unfold SCv at e
    split at e
    · rename_i R x y
      simp only [Option.some.injEq, Prod.mk.injEq] at e; obtain ⟨rfl, rfl⟩ := e
      have h1 : WinOk X0 Y0 X1 x y R lP px := hA _ (by simp)
      have h2 : (2 * R + 1) * (2 * R + 1) ≤ ln nK lK := hA ((2 * R + 1) * (2 * R + 1) ≤ ln nK lK) (by simp)
      have h3 : ln nK lK ≤ (rw' nK ks).length := hA (ln nK lK ≤ (rw' nK ks).length) (by simp)
      cases nK with
      | true =>
        have : 1 ≤ (2 * R + 1) * (2 * R + 1) := Nat.mul_pos (by omega) (by omega)
        have h2 : (2 * R + 1) * (2 * R + 1) ≤ 0 := h2
        omega
      | false => exact tgCv nC X0 Y0 X1 Y1 x y lP cP k d v R lK cK zK lC cC zC ks cs px h1 h2 h3
    · cases e
noncomputable abbrev WC : CtrW := addW 68 (readW (srcSpec SCv)) WB
theorem WC_ok : CtrWOk Try.prog WC := addW_ok (readW_ok pCv) WB_ok
end Go.Proofs.Ytadejpmecljjpaa
namespace Go.Proofs.Ytadejpmecljjpaa
open Go Go.Eng
noncomputable abbrev csC : CallS := callX Try.prog WC H0 1000 40
noncomputable abbrev XC : CX Try.prog := CX.of mo po WC_ok H0 1000 40
noncomputable abbrev cdRk : Code := bodyOf Try.f73
noncomputable abbrev a2Rk : Code := seqL (tailN 2 cdRk)
noncomputable abbrev rgRk : Code := inner (seqR a2Rk)
noncomputable abbrev asgRk : Code := rA rgRk
noncomputable abbrev bdyRk : Code := rB rgRk
noncomputable abbrev endRk : Code := seqR (tailN 2 cdRk)
def frRk : List (Nat × V) := [(3, .ptr (some (3, 0))), (6, .ptr (some (4, 0))), (7, .ptr (some (5, 0))), (18, .fn (.func 105) [] ptrs)]
abbrev QL := List Int × List Int × List Int × List Int
def slR (b : Bool) (i m : Nat) : V := match b with | true => .slc none 0 0 0 | false => .slc (some (i, 0)) m m 1
def vlO (b : Bool) (m : Nat) : O := .cells [slR b 11 m, slR b 12 m, slR b 13 m, slR b 14 m]
def owR (b : Bool) (S : QL) : List (Nat × O) := match b with | true => [] | false => [(11, .own .i64 S.1), (12, .own .i64 S.2.1), (13, .own .i64 S.2.2.1), (14, .own .i64 S.2.2.2)]
def nxR (b : Bool) : Nat := match b with | true => 11 | false => 15
section
variable (nK nC : Bool) (X0 Y0 X1 Y1 x y : Int) (lP cP : Nat) (k r d v : Int) (lK cK zK lC cC zC : Nat) (ks cs px : List Int)
def rowsR : List (Nat × O) := opQ nK 0 ks ++ (opQ nC 1 cs ++ [(2, .ints .u8 px)])
def bxR : O := bxS nK nC X0 Y0 X1 Y1 lP cP k r d v lK cK zK lC cC zC
def lsRk (b : Bool) (m : Nat) : List (Nat × O) := rowsR nK nC ks cs px ++ [(3, bxR nK nC X0 Y0 X1 Y1 lP cP k r d v lK cK zK lC cC zC), (4, z8), (5, vlO b m), (6, .cells [.int .i64 y]), (7, bxR nK nC X0 Y0 X1 Y1 lP cP k r d v lK cK zK lC cC zC), (8, .cells [.int .i64 x])]
def sRk1 : St := stG [(1, .int .i64 x), (2, .int .i64 y), (3, .ptr (some (3, 0))), (6, .ptr (some (4, 0))), (7, .ptr (some (5, 0)))] (hL (rowsR nK nC ks cs px ++ [(3, bxR nK nC X0 Y0 X1 Y1 lP cP k r d v lK cK zK lC cC zC), (4, z8), (5, vlO true 0)])) 6
def sRk2 : St := stG frRk (hL (lsRk nK nC X0 Y0 X1 Y1 x y lP cP k r d v lK cK zK lC cC zC ks cs px true 0)) 9
noncomputable def hRv (b : Bool) (m : Nat) (S : QL) : Tr O := hL (lsRk nK nC X0 Y0 X1 Y1 x y lP cP k r d v lK cK zK lC cC zC ks cs px b m ++ ([(9, .dfr), (10, .loop true none (Eng.frL frRk) [19, 20] asgRk bdyRk)] ++ owR b S))
noncomputable def rWo (b : Bool) (S : QL) (m : Nat) (vv : Int) : St := stG (wA ++ [(5, .int .i64 (Int.ofNat m)), (6, .int .i64 vv)]) (hRv nK nC X0 Y0 X1 Y1 x y lP cP k r d v lK cK zK lC cC zC ks cs px b m S) (nxR b)
noncomputable def rWi (b : Bool) (S : QL) (m : Nat) (vv uu : Int) : St := stG (wA ++ [(5, .int .i64 (Int.ofNat m)), (6, .int .i64 vv), (7, .int .i64 uu)]) (hRv nK nC X0 Y0 X1 Y1 x y lP cP k r d v lK cK zK lC cC zC ks cs px b m S) (nxR b)
def rkStep (m : Nat) (i : Int) (S : QL) : QL := ((S.1.drop 0).take (m * 1) ++ [w64 (pq px i 0)], (S.2.1.drop 0).take (m * 1) ++ [w64 (pq px i 1)], (S.2.2.1.drop 0).take (m * 1) ++ [w64 (pq px i 2)], (S.2.2.2.drop 0).take (m * 1) ++ [w64 (pq px i 3)])
def rA1 (m : Nat) (l : List Int) : List Prop := [0 < m, 0 + m * 1 ≤ l.length, 0 < 1, roomy (m + 1) 1 8 = true]
def rA4 (m : Nat) (S : QL) : List Prop := ix4 0 :: (rA1 m S.1 ++ (ix4 0 :: ix4 1 :: (rA1 m S.2.1 ++ (ix4 1 :: ix4 2 :: (rA1 m S.2.2.1 ++ (ix4 2 :: ix4 3 :: (rA1 m S.2.2.2 ++ [ix4 3])))))))
def clR (i : Int) : List (Nat × O) := [(11, .cells [.int .i64 (w64 (pq px i 0))]), (12, .cells [.int .i64 (w64 (pq px i 1))]), (13, .cells [.int .i64 (w64 (pq px i 2))]), (14, .cells [.int .i64 (w64 (pq px i 3))])]
noncomputable def rWr (i vv uu : Int) : St := stG (wA ++ [(5, .int .i64 (Int.ofNat 1)), (6, .int .i64 vv), (7, .int .i64 uu)]) (hL (lsRk nK nC X0 Y0 X1 Y1 x y lP cP k r d v lK cK zK lC cC zC ks cs px false 1 ++ ([(9, .dfr), (10, .loop true none (Eng.frL frRk) [19, 20] asgRk bdyRk)] ++ clR px i))) 15
abbrev e4 : QL := ([], [], [], [])
theorem rk_u1 : RunIs Try.prog csC [] 1000 3 Try.f73 [1, 2, 3, 6, 7] (headN 2 cdRk) (startSt [srcV nK nC X0 Y0 X1 Y1 lP cP k r d v lK cK zK lC cC zC, .int .i64 x, .int .i64 y] (rH3 nK nC ks cs px) 3) []
    [([], [], .to .normal (sRk1 nK nC X0 Y0 X1 Y1 x y lP cP k r d v lK cK zK lC cC zC ks cs px))] := by
  unfold RunIs; cases nK <;> cases nC <;> kernel_rfl
theorem rk_u2 : RunIs Try.prog csC [] 1000 3 Try.f73 [3, 6, 7, 18] (seqL a2Rk) (sRk1 nK nC X0 Y0 X1 Y1 x y lP cP k r d v lK cK zK lC cC zC ks cs px) []
    [([], [], .to .normal (sRk2 nK nC X0 Y0 X1 Y1 x y lP cP k r d v lK cK zK lC cC zC ks cs px))] := by
  unfold RunIs; cases nK <;> cases nC <;> kernel_rfl
theorem rk_heap : rHeap rgRk (sRk2 nK nC X0 Y0 X1 Y1 x y lP cP k r d v lK cK zK lC cC zC ks cs px) = hRv nK nC X0 Y0 X1 Y1 x y lP cP k r d v lK cK zK lC cC zC ks cs px true 0 e4 := by
  cases nK <;> cases nC <;> kernel_rfl
theorem rk_w1 (vv : Int) : RunIs Try.prog csC [(6, .give (.int .i64 vv))] 1000 11 Try.f105 [0, 1, 2, 3, 5, 6] (headN 2 cdWn) (startSt (.fn (.yield 10) [] [] :: ptrs) (hRv nK nC X0 Y0 X1 Y1 x y lP cP k r d v lK cK zK lC cC zC ks cs px true 0 e4) 11) []
    [([], [V.int .i64 (w64 (y - r)) = V.int .i64 vv], .to .normal (rWo nK nC X0 Y0 X1 Y1 x y lP cP k r d v lK cK zK lC cC zC ks cs px true e4 0 vv))] := by
  unfold RunIs; cases nK <;> cases nC <;> kernel_rfl
theorem rk_w2 (b : Bool) (S : QL) (m : Nat) (vv : Int) : RunIs Try.prog csC [(19, .split)] 1000 11 Try.f105 [0, 1, 2, 3, 5, 6] (seqL obodyW) (rWo nK nC X0 Y0 X1 Y1 x y lP cP k r d v lK cK zK lC cC zC ks cs px b S m vv) []
    [([(decide (vv ≤ w64 (y + r)), true)], [], .to .normal (rWo nK nC X0 Y0 X1 Y1 x y lP cP k r d v lK cK zK lC cC zC ks cs px b S m vv)),
     ([(decide (vv ≤ w64 (y + r)), false)], [], .to (.exit 0) (rWo nK nC X0 Y0 X1 Y1 x y lP cP k r d v lK cK zK lC cC zC ks cs px b S m vv))] := by
  unfold RunIs; cases b <;> cases nK <;> cases nC <;> kernel_rfl
theorem rk_w3 (b : Bool) (S : QL) (m : Nat) (vv uu : Int) : RunIs Try.prog csC [(7, .give (.int .i64 uu))] 1000 11 Try.f105 [0, 1, 2, 3, 5, 6, 7] (seqL in1W) (rWo nK nC X0 Y0 X1 Y1 x y lP cP k r d v lK cK zK lC cC zC ks cs px b S m vv) []
    [([], [V.int .i64 (w64 (x - r)) = V.int .i64 uu], .to .normal (rWi nK nC X0 Y0 X1 Y1 x y lP cP k r d v lK cK zK lC cC zC ks cs px b S m vv uu))] := by
  unfold RunIs; cases b <;> cases nK <;> cases nC <;> kernel_rfl
theorem rk_w4a (vv uu : Int) : RunIs Try.prog csC [(33, .split), (45, .give (.int .i64 (Int.ofNat 1))), (35, .give (.int .i64 (uu + 1)))] 1000 11 Try.f105 [0, 1, 2, 3, 5, 6, 7] ibodyW (rWi nK nC X0 Y0 X1 Y1 x y lP cP k r d v lK cK zK lC cC zC ks cs px true e4 0 vv uu) []
    [([(decide (uu ≤ w64 (x + r)), true)], atA lP px (idxE X0 Y0 X1 uu vv) ++ (ixs8 ++ [V.int .i64 1 = V.int .i64 1, upP uu (uu + 1)]),
      .to .normal (rWr nK nC X0 Y0 X1 Y1 x y lP cP k r d v lK cK zK lC cC zC ks cs px (idxE X0 Y0 X1 uu vv) vv (uu + 1))),
     ([(decide (uu ≤ w64 (x + r)), false)], [], .to (.exit 2) (rWi nK nC X0 Y0 X1 Y1 x y lP cP k r d v lK cK zK lC cC zC ks cs px true e4 0 vv uu))] := by
  unfold RunIs; cases nK <;> cases nC <;> kernel_rfl
theorem rk_own (i vv uu : Int) : ownS [(11, .i64), (12, .i64), (13, .i64), (14, .i64)] (rWr nK nC X0 Y0 X1 Y1 x y lP cP k r d v lK cK zK lC cC zC ks cs px i vv uu) = some (rWi nK nC X0 Y0 X1 Y1 x y lP cP k r d v lK cK zK lC cC zC ks cs px false (rkStep px 0 i e4) 1 vv uu) := by
  cases nK <;> cases nC <;> kernel_rfl
theorem rk_w4b (S : QL) (m : Nat) (vv uu : Int) : RunIs Try.prog csC [(33, .split), (45, .give (.int .i64 (Int.ofNat (m + 1)))), (35, .give (.int .i64 (uu + 1)))] 1000 11 Try.f105 [0, 1, 2, 3, 5, 6, 7] ibodyW (rWi nK nC X0 Y0 X1 Y1 x y lP cP k r d v lK cK zK lC cC zC ks cs px false S m vv uu) []
    [([(decide (uu ≤ w64 (x + r)), true)], atA lP px (idxE X0 Y0 X1 uu vv) ++ (rA4 m S ++ [upP (Int.ofNat m) (Int.ofNat (m + 1)), upP uu (uu + 1)]),
      .to .normal (rWi nK nC X0 Y0 X1 Y1 x y lP cP k r d v lK cK zK lC cC zC ks cs px false (rkStep px m (idxE X0 Y0 X1 uu vv) S) (m + 1) vv (uu + 1))),
     ([(decide (uu ≤ w64 (x + r)), false)], [], .to (.exit 2) (rWi nK nC X0 Y0 X1 Y1 x y lP cP k r d v lK cK zK lC cC zC ks cs px false S m vv uu))] := by
  unfold RunIs; cases nK <;> cases nC <;> kernel_rfl
theorem rk_w5 (b : Bool) (S : QL) (m : Nat) (vv uu : Int) : RunIs Try.prog csC [(21, .give (.int .i64 (vv + 1)))] 1000 11 Try.f105 [0, 1, 2, 3, 5, 6] (seqR (seqR obodyW)) (rWi nK nC X0 Y0 X1 Y1 x y lP cP k r d v lK cK zK lC cC zC ks cs px b S m vv uu) []
    [([], [upP vv (vv + 1)], .to .normal (rWo nK nC X0 Y0 X1 Y1 x y lP cP k r d v lK cK zK lC cC zC ks cs px b S m (vv + 1)))] := by
  unfold RunIs; cases b <;> cases nK <;> cases nC <;> kernel_rfl
theorem rk_wend (b : Bool) (S : QL) (m : Nat) (vv : Int) : retG Try.prog 11 Try.f105 (rWo nK nC X0 Y0 X1 Y1 x y lP cP k r d v lK cK zK lC cC zC ks cs px b S m vv) = some (.tup [], hRv nK nC X0 Y0 X1 Y1 x y lP cP k r d v lK cK zK lC cC zC ks cs px b m S, nxR b) := by
  cases b <;> cases nK <;> cases nC <;> kernel_rfl
theorem rk_good (b : Bool) (S : QL) (m : Nat) : rGood (sRk2 nK nC X0 Y0 X1 Y1 x y lP cP k r d v lK cK zK lC cC zC ks cs px) (hRv nK nC X0 Y0 X1 Y1 x y lP cP k r d v lK cK zK lC cC zC ks cs px b m S) = true := by
  cases b <;> cases nK <;> cases nC <;> kernel_rfl
theorem rk_norm (b : Bool) (S : QL) (m : Nat) (vv : Int) : normG 11 [0, 1, 2, 3, 5, 6] (rWo nK nC X0 Y0 X1 Y1 x y lP cP k r d v lK cK zK lC cC zC ks cs px b S m vv) = some (rWo nK nC X0 Y0 X1 Y1 x y lP cP k r d v lK cK zK lC cC zC ks cs px b S m vv) := by
  cases b <;> cases nK <;> cases nC <;> kernel_rfl
theorem rk_normi (b : Bool) (S : QL) (m : Nat) (vv uu : Int) : normG 11 [0, 1, 2, 3, 5, 6, 7] (rWi nK nC X0 Y0 X1 Y1 x y lP cP k r d v lK cK zK lC cC zC ks cs px b S m vv uu) = some (rWi nK nC X0 Y0 X1 Y1 x y lP cP k r d v lK cK zK lC cC zC ks cs px b S m vv uu) := by
  cases b <;> cases nK <;> cases nC <;> kernel_rfl
end
end Go.Proofs.Ytadejpmecljjpaa
namespace Go.Proofs.Ytadejpmecljjpaa
open Go Go.Eng
def rkS (px : List Int) (w : Nat → Int) : Nat → QL
  | 0 => e4
  | m + 1 => rkStep px m (w m) (rkS px w m)
theorem rkS_len (px : List Int) (w : Nat → Int) : ∀ m, (rkS px w m).1.length = m ∧ (rkS px w m).2.1.length = m ∧ (rkS px w m).2.2.1.length = m ∧ (rkS px w m).2.2.2.length = m
  | 0 => ⟨rfl, rfl, rfl, rfl⟩
  | m + 1 => by
    obtain ⟨h1, h2, h3, h4⟩ := rkS_len px w m
    simp only [rkS, rkStep, List.length_append, List.length_take, List.length_drop, List.length_singleton, h1, h2, h3, h4]
    omega
def rkVal (px : List Int) (w : Nat → Int) (j m : Nat) : List Int := (List.range m).map fun i => w64 (pq px (w i) j)
theorem rkVal_succ (px : List Int) (w : Nat → Int) (j m : Nat) : rkVal px w j (m + 1) = rkVal px w j m ++ [w64 (pq px (w m) j)] := by simp [rkVal, List.range_succ]
theorem rkS_val (px : List Int) (w : Nat → Int) : ∀ m, rkS px w m = (rkVal px w 0 m, rkVal px w 1 m, rkVal px w 2 m, rkVal px w 3 m)
  | 0 => rfl
  | m + 1 => by
    obtain ⟨h1, h2, h3, h4⟩ := rkS_len px w m
    have ih := rkS_val px w m
    simp only [rkS, rkStep, rkVal_succ, List.drop_zero, Nat.mul_one]
    rw [ih] at h1 h2 h3 h4 ⊢
    simp only at h1 h2 h3 h4 ⊢
    rw [List.take_of_length_le (by omega), List.take_of_length_le (by omega), List.take_of_length_le (by omega), List.take_of_length_le (by omega)]
theorem rA1_ok {m : Nat} {l : List Int} (h0 : 0 < m) (h1 : m < 100) (hl : l.length = m) : ∀ p ∈ rA1 m l, p := by
  simp only [rA1, List.mem_cons, List.not_mem_nil, or_false]
  rintro p (rfl | rfl | rfl | rfl)
  · exact h0
  · omega
  · omega
  · unfold roomy; rw [decide_eq_true_iff]; omega
theorem rA4_ok {m : Nat} {S : QL} (h0 : 0 < m) (h1 : m < 100) (hl : S.1.length = m ∧ S.2.1.length = m ∧ S.2.2.1.length = m ∧ S.2.2.2.length = m) : ∀ p ∈ rA4 m S, p := by
  obtain ⟨l1, l2, l3, l4⟩ := hl
  simp only [rA4, List.mem_cons, List.mem_append, List.not_mem_nil, or_false]
  rintro p (rfl | q | rfl | rfl | q | rfl | rfl | q | rfl | rfl | q | rfl)
  · exact ⟨by omega, by omega⟩
  · exact rA1_ok h0 h1 l1 p q
  · exact ⟨by omega, by omega⟩
  · exact ⟨by omega, by omega⟩
  · exact rA1_ok h0 h1 l2 p q
  · exact ⟨by omega, by omega⟩
  · exact ⟨by omega, by omega⟩
  · exact rA1_ok h0 h1 l3 p q
  · exact ⟨by omega, by omega⟩
  · exact ⟨by omega, by omega⟩
  · exact rA1_ok h0 h1 l4 p q
  · exact ⟨by omega, by omega⟩
theorem ownS_nil (s : St) : ownS [] s = some s := rfl
section
variable (nK nC : Bool) (X0 Y0 X1 Y1 x y : Int) (lP cP : Nat) (k d v : Int) (R lK cK zK lC cC zC : Nat) (ks cs px : List Int)
variable (hw : WinOk X0 Y0 X1 x y R lP px)
abbrev rS (m : Nat) : QL := rkS px (winI X0 Y0 X1 x y R) m
noncomputable abbrev rI (m : Nat) (vv uu : Int) : St := rWi nK nC X0 Y0 X1 Y1 x y lP cP k (Int.ofNat R) d v lK cK zK lC cC zC ks cs px (Nat.beq m 0) (rS X0 Y0 X1 x y R px m) m vv uu
noncomputable abbrev rOt (m : Nat) (vv : Int) : St := rWo nK nC X0 Y0 X1 Y1 x y lP cP k (Int.ofNat R) d v lK cK zK lC cC zC ks cs px (Nat.beq m 0) (rS X0 Y0 X1 x y R px m) m vv
include hw
theorem rk_inner (a : Nat) (ha : a < 2 * R + 1) : TG Try.prog 11 Try.f105.ntmps iloopW (rI nK nC X0 Y0 X1 Y1 x y lP cP k d v R lK cK zK lC cC zC ks cs px (a * (2 * R + 1)) (y - Int.ofNat R + Int.ofNat a) (x - Int.ofNat R))
    (fun z s' => z = .exit 2 ∧ ∃ uu, normG 11 [0, 1, 2, 3, 5, 6, 7] s' = some (rI nK nC X0 Y0 X1 Y1 x y lP cP k d v R lK cK zK lC cC zC ks cs px ((a + 1) * (2 * R + 1)) (y - Int.ofNat R + Int.ofNat a) uu)) := by
  obtain ⟨hr, ⟨hx1, hx2⟩, _, _⟩ := id hw
  have hR : Int.ofNat R = (R : Int) := rfl
  refine TG_loop_inv (fun k' s => ∃ b, k' = 2 * R + 1 - b ∧ b ≤ 2 * R + 1 ∧ ∃ L s1 l, normG 11 L s = some s1 ∧ ownS l s1 = some (rI nK nC X0 Y0 X1 Y1 x y lP cP k d v R lK cK zK lC cC zC ks cs px (a * (2 * R + 1) + b) (y - Int.ofNat R + Int.ofNat a) (x - Int.ofNat R + Int.ofNat b))) (by kernel_rfl) ?_ (2 * R + 1) ⟨0, rfl, by omega, [0, 1, 2, 3, 5, 6, 7], _, [], rk_normi nK nC X0 Y0 X1 Y1 x y lP cP k (Int.ofNat R) d v lK cK zK lC cC zC ks cs px _ _ _ _ _, by
      have e : x - Int.ofNat R + Int.ofNat 0 = x - Int.ofNat R := by show x - (R : Int) + ((0 : Nat) : Int) = _; omega
      rw [e]; rfl⟩
  rintro k' s ⟨b, hk, hb, L, s1, l, hs, ho⟩
  refine TG_norm hs (TG_own l ho ?_)
  have hB : Int.ofNat b = (b : Int) := rfl
  have htest : (x - Int.ofNat R + Int.ofNat b ≤ w64 (x + Int.ofNat R)) ↔ b < 2 * R + 1 := by
    rw [w64_id (by rw [hR]; omega) (by rw [hR]; omega), hR, hB]; omega
  have hgo : b < 2 * R + 1 → a * (2 * R + 1) + b < (2 * R + 1) * (2 * R + 1) ∧ (2 * R + 1) * (2 * R + 1) ≤ 49 := by
    intro hlt
    have := Nat.mul_le_mul_right (2 * R + 1) (show a + 1 ≤ 2 * R + 1 by omega)
    rw [Nat.add_mul, Nat.one_mul] at this
    have hsz : (2 * R + 1) * (2 * R + 1) ≤ 7 * 7 := Nat.mul_le_mul (by omega) (by omega)
    exact ⟨by omega, hsz⟩
  have e1 : x - Int.ofNat R + Int.ofNat (b + 1) = x - Int.ofNat R + Int.ofNat b + 1 := by show x - (R : Int) + ((b + 1 : Nat) : Int) = x - (R : Int) + (b : Int) + 1; omega
  have hend : ¬ b < 2 * R + 1 → ∀ s', normG 11 [0, 1, 2, 3, 5, 6, 7] s' = some (rI nK nC X0 Y0 X1 Y1 x y lP cP k d v R lK cK zK lC cC zC ks cs px (a * (2 * R + 1) + b) (y - Int.ofNat R + Int.ofNat a) (x - Int.ofNat R + Int.ofNat b)) →
      ∃ uu, normG 11 [0, 1, 2, 3, 5, 6, 7] s' = some (rI nK nC X0 Y0 X1 Y1 x y lP cP k d v R lK cK zK lC cC zC ks cs px ((a + 1) * (2 * R + 1)) (y - Int.ofNat R + Int.ofNat a) uu) := by
    intro hge s' hs'
    have hbe : b = 2 * R + 1 := by omega
    refine ⟨x - Int.ofNat R + Int.ofNat b, ?_⟩
    have e : (a + 1) * (2 * R + 1) = a * (2 * R + 1) + b := by rw [Nat.add_mul, Nat.one_mul, hbe]
    rw [e]; exact hs'
  have hstep : b < 2 * R + 1 → rS X0 Y0 X1 x y R px (a * (2 * R + 1) + (b + 1)) = rkStep px (a * (2 * R + 1) + b) (idxE X0 Y0 X1 (x - Int.ofNat R + Int.ofNat b) (y - Int.ofNat R + Int.ofNat a)) (rS X0 Y0 X1 x y R px (a * (2 * R + 1) + b)) := by
    intro hlt
    rw [← winI_ab X0 Y0 X1 x y R a b hlt]; rfl
  have hat' : b < 2 * R + 1 → ∀ p ∈ atA lP px (idxE X0 Y0 X1 (x - Int.ofNat R + Int.ofNat b) (y - Int.ofNat R + Int.ofNat a)), p := by
    intro hlt
    have hat := hw.at (hgo hlt).1
    rw [winI_ab X0 Y0 X1 x y R a b hlt] at hat
    exact hat
  have hup : upP (x - Int.ofNat R + Int.ofNat b) (x - Int.ofNat R + Int.ofNat b + 1) := upI (by rw [hR, hB]; omega) (by rw [hR, hB]; omega)
  cases hm : a * (2 * R + 1) + b with
  | zero =>
    rw [hm] at hend
    refine TG_is XC mo anyR (by kernel_rfl) (rk_w4a nK nC X0 Y0 X1 Y1 x y lP cP k (Int.ofNat R) d v lK cK zK lC cC zC ks cs px (y - Int.ofNat R + Int.ofNat a) (x - Int.ofNat R + Int.ofNat b)) fun g hg hc => ?_
    simp only [List.mem_cons, List.not_mem_nil, or_false] at hg
    rcases hg with rfl | rfl
    · have hlt : b < 2 * R + 1 := htest.1 (of_decide_eq_true (hc _ (List.mem_singleton.2 rfl)))
      refine ⟨fun p hp => ?_, fun s' hs' => ⟨2 * R + 1 - (b + 1), by omega, b + 1, rfl, by omega, _, _, [(11, .i64), (12, .i64), (13, .i64), (14, .i64)], hs', ?_⟩⟩
      · rcases List.mem_append.1 hp with hp | hp
        · exact hat' hlt p hp
        · rcases List.mem_append.1 hp with hp | hp
          · exact ixs8_ok p hp
          · simp only [List.mem_cons, List.not_mem_nil, or_false] at hp
            rcases hp with rfl | rfl
            · trivial
            · exact hup
      · have h2 := hstep hlt
        rw [hm] at h2
        have em : a * (2 * R + 1) + (b + 1) = 1 := by omega
        rw [em] at h2 ⊢
        rw [e1]
        show _ = some (rWi nK nC X0 Y0 X1 Y1 x y lP cP k (Int.ofNat R) d v lK cK zK lC cC zC ks cs px false (rS X0 Y0 X1 x y R px 1) 1 _ _)
        rw [h2]
        exact rk_own nK nC X0 Y0 X1 Y1 x y lP cP k (Int.ofNat R) d v lK cK zK lC cC zC ks cs px _ _ _
    · have hge : ¬ b < 2 * R + 1 := fun q => (of_decide_eq_false (hc _ (List.mem_singleton.2 rfl))) (htest.2 q)
      exact ⟨by simp, fun s' hs' => ⟨rfl, hend hge s' hs'⟩⟩
  | succ m' =>
    have hpos : 0 < a * (2 * R + 1) + b := by omega
    have hbeq : Nat.beq (a * (2 * R + 1) + b) 0 = false := by rw [hm]; rfl
    rw [← hm]
    refine TG_is XC mo anyR (by kernel_rfl) (s := rWi nK nC X0 Y0 X1 Y1 x y lP cP k (Int.ofNat R) d v lK cK zK lC cC zC ks cs px (Nat.beq (a * (2 * R + 1) + b) 0) (rS X0 Y0 X1 x y R px (a * (2 * R + 1) + b)) (a * (2 * R + 1) + b) (y - Int.ofNat R + Int.ofNat a) (x - Int.ofNat R + Int.ofNat b)) (by rw [hbeq]; exact rk_w4b nK nC X0 Y0 X1 Y1 x y lP cP k (Int.ofNat R) d v lK cK zK lC cC zC ks cs px (rS X0 Y0 X1 x y R px (a * (2 * R + 1) + b)) (a * (2 * R + 1) + b) (y - Int.ofNat R + Int.ofNat a) (x - Int.ofNat R + Int.ofNat b)) fun g hg hc => ?_
    simp only [List.mem_cons, List.not_mem_nil, or_false] at hg
    rcases hg with rfl | rfl
    · have hlt : b < 2 * R + 1 := htest.1 (of_decide_eq_true (hc _ (List.mem_singleton.2 rfl)))
      obtain ⟨g1, g2⟩ := hgo hlt
      refine ⟨fun p hp => ?_, fun s' hs' => ⟨2 * R + 1 - (b + 1), by omega, b + 1, rfl, by omega, _, _, [], hs', ?_⟩⟩
      · rcases List.mem_append.1 hp with hp | hp
        · exact hat' hlt p hp
        · rcases List.mem_append.1 hp with hp | hp
          · exact rA4_ok hpos (by omega) (rkS_len px _ _) p hp
          · simp only [List.mem_cons, List.not_mem_nil, or_false] at hp
            rcases hp with rfl | rfl
            · exact upN (by omega)
            · exact hup
      · rw [e1, ownS_nil]
        show _ = some (rWi nK nC X0 Y0 X1 Y1 x y lP cP k (Int.ofNat R) d v lK cK zK lC cC zC ks cs px false (rS X0 Y0 X1 x y R px (a * (2 * R + 1) + (b + 1))) (a * (2 * R + 1) + (b + 1)) _ _)
        rw [hstep hlt]; rfl
    · have hge : ¬ b < 2 * R + 1 := fun q => (of_decide_eq_false (hc _ (List.mem_singleton.2 rfl))) (htest.2 q)
      refine ⟨by simp, fun s' hs' => ⟨rfl, hend hge s' ?_⟩⟩
      unfold rI; rw [hbeq]; exact hs'
theorem rk_outer : TG Try.prog 11 Try.f105.ntmps oloopW (rOt nK nC X0 Y0 X1 Y1 x y lP cP k d v R lK cK zK lC cC zC ks cs px 0 (y - Int.ofNat R))
    (fun z s' => z = .exit 0 ∧ ∃ vv, normG 11 [0, 1, 2, 3, 5, 6] s' = some (rOt nK nC X0 Y0 X1 Y1 x y lP cP k d v R lK cK zK lC cC zC ks cs px ((2 * R + 1) * (2 * R + 1)) vv)) := by
  obtain ⟨hr, ⟨hx1, hx2⟩, ⟨hy1, hy2⟩, _⟩ := id hw
  have hR : Int.ofNat R = (R : Int) := rfl
  refine TG_loop_inv (fun k' s => ∃ a, k' = 2 * R + 1 - a ∧ a ≤ 2 * R + 1 ∧ ∃ L, normG 11 L s = some (rOt nK nC X0 Y0 X1 Y1 x y lP cP k d v R lK cK zK lC cC zC ks cs px (a * (2 * R + 1)) (y - Int.ofNat R + Int.ofNat a))) (by kernel_rfl) ?_ (2 * R + 1) ⟨0, rfl, by omega, [0, 1, 2, 3, 5, 6], by
      have e : y - Int.ofNat R + Int.ofNat 0 = y - Int.ofNat R := by show y - (R : Int) + ((0 : Nat) : Int) = _; omega
      rw [e, Nat.zero_mul]
      exact rk_norm nK nC X0 Y0 X1 Y1 x y lP cP k (Int.ofNat R) d v lK cK zK lC cC zC ks cs px _ _ _ _⟩
  rintro k' s ⟨a, hk, ha, L, hs⟩
  refine TG_norm hs ?_
  have hA : Int.ofNat a = (a : Int) := rfl
  have htest : (y - Int.ofNat R + Int.ofNat a ≤ w64 (y + Int.ofNat R)) ↔ a < 2 * R + 1 := by
    rw [w64_id (by rw [hR]; omega) (by rw [hR]; omega), hR, hA]; omega
  refine TG_isSeq XC mo anyR (by kernel_rfl) (by kernel_rfl) (rk_w2 nK nC X0 Y0 X1 Y1 x y lP cP k (Int.ofNat R) d v lK cK zK lC cC zC ks cs px _ _ _ _) fun g hg hc => ?_
  simp only [List.mem_cons, List.not_mem_nil, or_false] at hg
  rcases hg with rfl | rfl
  · have hlt : a < 2 * R + 1 := htest.1 (of_decide_eq_true (hc _ (List.mem_singleton.2 rfl)))
    refine ⟨by simp, fun s' hs' => TG_norm hs' ?_⟩
    refine TG_seq' (by kernel_rfl) ?_
    refine TG_block (i := 1) (by kernel_rfl) ?_
    refine TG_isSeq XC mo anyR (by kernel_rfl) (by kernel_rfl) (rk_w3 nK nC X0 Y0 X1 Y1 x y lP cP k (Int.ofNat R) d v lK cK zK lC cC zC ks cs px _ _ _ _ (x - Int.ofNat R)) fun g hg _ => ?_
    rw [List.mem_singleton] at hg; subst hg
    refine ⟨by
      intro p hp; rw [List.mem_singleton] at hp; subst hp
      rw [w64_id (by rw [hR]; omega) (by rw [hR]; omega)], fun s' hs' => TG_norm hs' ?_⟩
    refine TG_block (i := 2) (by kernel_rfl) ?_
    refine TG_mono (rk_inner nK nC X0 Y0 X1 Y1 x y lP cP k d v R lK cK zK lC cC zC ks cs px hw a hlt) ?_
    rintro z s' ⟨rfl, uu, hs⟩
    rw [outOf_exit]
    simp only [outOf, andThen]
    refine TG_norm hs ?_
    refine TG_is XC mo anyR (by kernel_rfl) (rk_w5 nK nC X0 Y0 X1 Y1 x y lP cP k (Int.ofNat R) d v lK cK zK lC cC zC ks cs px _ _ _ _ _) fun g hg _ => ?_
    rw [List.mem_singleton] at hg; subst hg
    refine ⟨by
      intro p hp; rw [List.mem_singleton] at hp; subst hp
      exact upI (by rw [hR, hA]; omega) (by rw [hR, hA]; omega), fun s' hs' => ?_⟩
    refine ⟨2 * R + 1 - (a + 1), by omega, a + 1, rfl, by omega, [0, 1, 2, 3, 5, 6], ?_⟩
    have e : y - Int.ofNat R + Int.ofNat (a + 1) = y - Int.ofNat R + Int.ofNat a + 1 := by show y - (R : Int) + ((a + 1 : Nat) : Int) = y - (R : Int) + (a : Int) + 1; omega
    rw [e]; exact hs'
  · have hge : ¬ a < 2 * R + 1 := fun q => (of_decide_eq_false (hc _ (List.mem_singleton.2 rfl))) (htest.2 q)
    have hae : a = 2 * R + 1 := by omega
    refine ⟨by simp, fun s' hs' => ⟨rfl, y - Int.ofNat R + Int.ofNat a, ?_⟩⟩
    subst hae
    exact hs'
theorem rk_win : TG Try.prog 11 Try.f105.ntmps cdWn (startSt (.fn (.yield 10) [] [] :: ptrs) (hRv nK nC X0 Y0 X1 Y1 x y lP cP k (Int.ofNat R) d v lK cK zK lC cC zC ks cs px true 0 e4) 11)
    (RetG Try.prog 11 Try.f105 fun a b c => a = .tup [] ∧ b = hRv nK nC X0 Y0 X1 Y1 x y lP cP k (Int.ofNat R) d v lK cK zK lC cC zC ks cs px false ((2 * R + 1) * (2 * R + 1)) (rS X0 Y0 X1 x y R px ((2 * R + 1) * (2 * R + 1))) ∧ c = 15) := by
  obtain ⟨hr, _, ⟨hy1, hy2⟩, _⟩ := id hw
  have hR : Int.ofNat R = (R : Int) := rfl
  refine TG_isN1 2 XC mo (by kernel_rfl) (rk_w1 nK nC X0 Y0 X1 Y1 x y lP cP k (Int.ofNat R) d v lK cK zK lC cC zC ks cs px (y - Int.ofNat R)) ?_ ?_
  · intro p hp; rw [List.mem_singleton] at hp; subst hp
    rw [w64_id (by rw [hR]; omega) (by rw [hR]; omega)]
  refine TG_block (i := 0) (by kernel_rfl) (TG_monoN (rk_outer nK nC X0 Y0 X1 Y1 x y lP cP k d v R lK cK zK lC cC zC ks cs px hw) ?_)
  rintro z s' ⟨rfl, vv, hs⟩
  refine ⟨_, _, hs, ?_⟩
  rw [outOf_exit]
  have hb : Nat.beq ((2 * R + 1) * (2 * R + 1)) 0 = false := by
    have : 0 < (2 * R + 1) * (2 * R + 1) := Nat.mul_pos (by omega) (by omega)
    cases q : (2 * R + 1) * (2 * R + 1) with
    | zero => omega
    | succ n => rfl
  refine ⟨.inl rfl, _, _, _, rk_wend nK nC X0 Y0 X1 Y1 x y lP cP k (Int.ofNat R) d v lK cK zK lC cC zC ks cs px _ _ _ _, rfl, ?_, ?_⟩
  · rw [hb]
  · rw [hb]; rfl
end
end Go.Proofs.Ytadejpmecljjpaa
