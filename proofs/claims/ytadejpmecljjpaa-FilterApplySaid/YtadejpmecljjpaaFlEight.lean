/- Filter laws anew, part Y: the contract of rank, from one of the sort. No conditions. -/
import Derived.Test.YtadejpmecljjpaaFlSeven
import Derived.Test.YtadejpmecljjpaaEngEight
set_option linter.unusedVariables false
set_option linter.unusedSimpArgs false
set_option linter.unusedSectionVars false
namespace Go.Proofs.Ytadejpmecljjpaa
open Go Go.Eng
noncomputable abbrev WD : CtrW := addW 97 sortSpec WC
noncomputable abbrev csD : CallS := callX Try.prog WD H0 1000 40
def ixM (m : Nat) : Int := w64 ((m : Int).tdiv 2)
def ixD (m : Nat) : Int := w64 ((m : Int) - 1)
def rkP (S : QL) (i : Nat) : V := mkP (u8w ((sortI S.1).getD i 0)) (u8w ((sortI S.2.1).getD i 0)) (u8w ((sortI S.2.2.1).getD i 0)) (u8w ((sortI S.2.2.2).getD i 0))
def rE2 (m : Nat) (l : List Int) (j : Int) : List Prop := [0 < m, m = l.length, m < 1000000, (2 : Int) ≠ 0, 0 ≤ ixM m ∧ ixM m < (m : Int), 0 + (ixM m).toNat * 1 < (sortI l).length, ix4 j]
def rE3 (m : Nat) (l : List Int) (j : Int) : List Prop := [0 < m, m = l.length, m < 1000000, (0 : Int) ≤ 0 ∧ (0 : Int) < (m : Int), 0 < (sortI l).length, ix4 j]
def rE4 (m : Nat) (l : List Int) (j : Int) : List Prop := [0 < m, m = l.length, m < 1000000, 0 ≤ ixD m ∧ ixD m < (m : Int), 0 + (ixD m).toNat * 1 < (sortI l).length, ix4 j]
def fourQ (f : List Int → Int → List Prop) (S : QL) : List Prop := f S.1 0 ++ (f S.2.1 1 ++ (f S.2.2.1 2 ++ f S.2.2.2 3))
theorem fourQ_ok {f : List Int → Int → List Prop} {S : QL} {m : Nat} (hl : S.1.length = m ∧ S.2.1.length = m ∧ S.2.2.1.length = m ∧ S.2.2.2.length = m) (h : ∀ l j, l.length = m → 0 ≤ j → j < 4 → ∀ p ∈ f l j, p) : ∀ p ∈ fourQ f S, p := by
  obtain ⟨l1, l2, l3, l4⟩ := hl
  intro p hp
  simp only [fourQ, List.mem_append] at hp
  rcases hp with hp | hp | hp | hp
  · exact h _ _ l1 (by omega) (by omega) p hp
  · exact h _ _ l2 (by omega) (by omega) p hp
  · exact h _ _ l3 (by omega) (by omega) p hp
  · exact h _ _ l4 (by omega) (by omega) p hp
theorem ixM_eq {m : Nat} (h : m < 1000000) : ixM m = ((m / 2 : Nat) : Int) := by
  unfold ixM
  have : (m : Int).tdiv 2 = ((m / 2 : Nat) : Int) := rfl
  rw [this]; exact w64_id (by omega) (by omega)
theorem ixD_eq {m : Nat} (h0 : 0 < m) (h : m < 1000000) : ixD m = ((m - 1 : Nat) : Int) := by
  unfold ixD
  rw [w64_id (by omega) (by omega)]; omega
theorem rE2_ok {m : Nat} (h0 : 0 < m) (h1 : m < 1000000) : ∀ l j, l.length = m → 0 ≤ j → j < 4 → ∀ p ∈ rE2 m l j, p := by
  intro l j hl hj hj2
  simp only [rE2, List.mem_cons, List.not_mem_nil, or_false, ixM_eq h1, sortI_len]
  rintro p (rfl | rfl | rfl | rfl | rfl | rfl | rfl)
  · exact h0
  · exact hl.symm
  · exact h1
  · decide
  · omega
  · rw [Int.toNat_natCast]; omega
  · exact ⟨hj, hj2⟩
theorem rE3_ok {m : Nat} (h0 : 0 < m) (h1 : m < 1000000) : ∀ l j, l.length = m → 0 ≤ j → j < 4 → ∀ p ∈ rE3 m l j, p := by
  intro l j hl hj hj2
  simp only [rE3, List.mem_cons, List.not_mem_nil, or_false, sortI_len]
  rintro p (rfl | rfl | rfl | rfl | rfl | rfl)
  · exact h0
  · exact hl.symm
  · exact h1
  · omega
  · omega
  · exact ⟨hj, hj2⟩
theorem rE4_ok {m : Nat} (h0 : 0 < m) (h1 : m < 1000000) : ∀ l j, l.length = m → 0 ≤ j → j < 4 → ∀ p ∈ rE4 m l j, p := by
  intro l j hl hj hj2
  simp only [rE4, List.mem_cons, List.not_mem_nil, or_false, ixD_eq h0 h1, sortI_len]
  rintro p (rfl | rfl | rfl | rfl | rfl | rfl)
  · exact h0
  · exact hl.symm
  · exact h1
  · omega
  · rw [Int.toNat_natCast]; omega
  · exact ⟨hj, hj2⟩
section
variable (nK nC : Bool) (X0 Y0 X1 Y1 x y : Int) (lP cP : Nat) (r d v : Int) (lK cK zK lC cC zC : Nat) (ks cs px : List Int) (S : QL) (m : Nat)
theorem rk_e2 : ∃ h n, RunIs Try.prog csD [] 1000 3 Try.f73 [] endRk (rEnd (sRk2 nK nC X0 Y0 X1 Y1 x y lP cP 2 r d v lK cK zK lC cC zC ks cs px) (hRv nK nC X0 Y0 X1 Y1 x y lP cP 2 r d v lK cK zK lC cC zC ks cs px false m S) 15) []
    [([], fourQ (rE2 m) S, .ret (rkP S (0 + (ixM m).toNat * 1)) h n)] := by
  refine ⟨rH3 nK nC ks cs px, 3, ?_⟩
  unfold RunIs; cases nK <;> cases nC <;> kernel_rfl
theorem rk_e3 : ∃ h n, RunIs Try.prog csD [] 1000 3 Try.f73 [] endRk (rEnd (sRk2 nK nC X0 Y0 X1 Y1 x y lP cP 3 r d v lK cK zK lC cC zC ks cs px) (hRv nK nC X0 Y0 X1 Y1 x y lP cP 3 r d v lK cK zK lC cC zC ks cs px false m S) 15) []
    [([], fourQ (rE3 m) S, .ret (rkP S 0) h n)] := by
  refine ⟨rH3 nK nC ks cs px, 3, ?_⟩
  unfold RunIs; cases nK <;> cases nC <;> kernel_rfl
theorem rk_e4 : ∃ h n, RunIs Try.prog csD [] 1000 3 Try.f73 [] endRk (rEnd (sRk2 nK nC X0 Y0 X1 Y1 x y lP cP 4 r d v lK cK zK lC cC zC ks cs px) (hRv nK nC X0 Y0 X1 Y1 x y lP cP 4 r d v lK cK zK lC cC zC ks cs px false m S) 15) []
    [([], fourQ (rE4 m) S, .ret (rkP S (0 + (ixD m).toNat * 1)) h n)] := by
  refine ⟨rH3 nK nC ks cs px, 3, ?_⟩
  unfold RunIs; cases nK <;> cases nC <;> kernel_rfl
end
def rkI (K : Int) (m : Nat) : Nat := if K = 2 then m / 2 else if K = 3 then 0 else m - 1
def rkRes (K : Int) (px : List Int) (w : Nat → Int) (m : Nat) : V := rkP (rkVal px w 0 m, rkVal px w 1 m, rkVal px w 2 m, rkVal px w 3 m) (rkI K m)
section
variable (hs : Sorts Try.prog 97)
include hs
theorem WD_ok : CtrWOk Try.prog WD := addW_ok (sortSpec_ok (Nat.le_of_ble_eq_true (by kernel_rfl)) hs) WC_ok
noncomputable abbrev XD : CX Try.prog := CX.of mo po (WD_ok hs) H0 1000 40
variable (nK nC : Bool) (X0 Y0 X1 Y1 x y : Int) (lP cP : Nat) (k d v : Int) (R lK cK zK lC cC zC : Nat) (ks cs px : List Int)
variable (hw : WinOk X0 Y0 X1 x y R lP px) (hk : k = 2 ∨ k = 3 ∨ k = 4)
include hw hk
theorem tgRk : TG Try.prog 3 Try.f73.ntmps cdRk (startSt [srcV nK nC X0 Y0 X1 Y1 lP cP k (Int.ofNat R) d v lK cK zK lC cC zC, .int .i64 x, .int .i64 y] (rH3 nK nC ks cs px) 3) (RetG Try.prog 3 Try.f73 fun a _ _ => a = rkRes k px (winI X0 Y0 X1 x y R) ((2 * R + 1) * (2 * R + 1))) := by
  have hr := hw.r
  have hpos : 0 < (2 * R + 1) * (2 * R + 1) := Nat.mul_pos (by omega) (by omega)
  have hsz : (2 * R + 1) * (2 * R + 1) ≤ 7 * 7 := Nat.mul_le_mul (by omega) (by omega)
  refine TG_isN1 2 XC mo (by kernel_rfl) (rk_u1 nK nC X0 Y0 X1 Y1 x y lP cP k (Int.ofNat R) d v lK cK zK lC cC zC ks cs px) (by simp) ?_
  refine TG_seq' (by kernel_rfl) ?_
  refine TG_isSeq XC mo anyR (by kernel_rfl) (by kernel_rfl) (rk_u2 nK nC X0 Y0 X1 Y1 x y lP cP k (Int.ofNat R) d v lK cK zK lC cC zC ks cs px) fun g hg _ => ?_
  rw [List.mem_singleton] at hg; subst hg
  refine ⟨by simp, fun s' hs' => TG_norm hs' ?_⟩
  refine TG_block (i := 0) (by kernel_rfl) ?_
  refine TG_range (gf := 105) (lb := ptrs) (v := .tup []) (h' := hRv nK nC X0 Y0 X1 Y1 x y lP cP k (Int.ofNat R) d v lK cK zK lC cC zC ks cs px false ((2 * R + 1) * (2 * R + 1)) (rS X0 Y0 X1 x y R px ((2 * R + 1) * (2 * R + 1)))) (n' := 15) mo (by kernel_rfl) (by kernel_rfl) (by kernel_rfl) (by kernel_rfl) (by kernel_rfl) ?_ (rk_good nK nC X0 Y0 X1 Y1 x y lP cP k (Int.ofNat R) d v lK cK zK lC cC zC ks cs px _ _ _) ?_
  · intro E w args' ra g hd
    rw [rk_heap] at g ⊢
    exact calls_of_TG1 mo po Try.func105 (by kernel_rfl) (by kernel_rfl) _ _ _ (rk_win nK nC X0 Y0 X1 Y1 x y lP cP k d v R lK cK zK lC cC zC ks cs px hw) ra g hd
  · simp only [outOf, andThen]
    have hl := rkS_len px (winI X0 Y0 X1 x y R) ((2 * R + 1) * (2 * R + 1))
    have hv := rkS_val px (winI X0 Y0 X1 x y R) ((2 * R + 1) * (2 * R + 1))
    rcases hk with rfl | rfl | rfl
    · obtain ⟨h1, n1, hr⟩ := rk_e2 nK nC X0 Y0 X1 Y1 x y lP cP (Int.ofNat R) d v lK cK zK lC cC zC ks cs px (rS X0 Y0 X1 x y R px ((2 * R + 1) * (2 * R + 1))) ((2 * R + 1) * (2 * R + 1))
      refine TG_ret (XD hs) mo _ (by kernel_rfl) hr fun g hg hc => ?_
      rw [List.mem_singleton] at hg; subst hg
      refine ⟨fourQ_ok hl (rE2_ok hpos (by omega)), _, _, _, rfl, ?_⟩
      rw [ixM_eq (by omega), Int.toNat_natCast, Nat.zero_add, Nat.mul_one]
      show rkP (rkS px (winI X0 Y0 X1 x y R) ((2 * R + 1) * (2 * R + 1))) _ = rkP _ _
      rw [hv]; rfl
    · obtain ⟨h1, n1, hr⟩ := rk_e3 nK nC X0 Y0 X1 Y1 x y lP cP (Int.ofNat R) d v lK cK zK lC cC zC ks cs px (rS X0 Y0 X1 x y R px ((2 * R + 1) * (2 * R + 1))) ((2 * R + 1) * (2 * R + 1))
      refine TG_ret (XD hs) mo _ (by kernel_rfl) hr fun g hg hc => ?_
      rw [List.mem_singleton] at hg; subst hg
      refine ⟨fourQ_ok hl (rE3_ok hpos (by omega)), _, _, _, rfl, ?_⟩
      show rkP (rkS px (winI X0 Y0 X1 x y R) ((2 * R + 1) * (2 * R + 1))) _ = rkP _ _
      rw [hv]; rfl
    · obtain ⟨h1, n1, hr⟩ := rk_e4 nK nC X0 Y0 X1 Y1 x y lP cP (Int.ofNat R) d v lK cK zK lC cC zC ks cs px (rS X0 Y0 X1 x y R px ((2 * R + 1) * (2 * R + 1))) ((2 * R + 1) * (2 * R + 1))
      refine TG_ret (XD hs) mo _ (by kernel_rfl) hr fun g hg hc => ?_
      rw [List.mem_singleton] at hg; subst hg
      refine ⟨fourQ_ok hl (rE4_ok hpos (by omega)), _, _, _, rfl, ?_⟩
      rw [ixD_eq hpos (by omega), Int.toNat_natCast, Nat.zero_add, Nat.mul_one]
      show rkP (rkS px (winI X0 Y0 X1 x y R) ((2 * R + 1) * (2 * R + 1))) _ = rkP _ _
      rw [hv]; rfl
end
def SRk : SF := fun X0 Y0 X1 _ lP px k r _ _ _ _ _ _ X => match r, X with
  | .ofNat R, [.int .i64 x, .int .i64 y] => some ([WinOk X0 Y0 X1 x y R lP px, k = 2 ∨ k = 3 ∨ k = 4], rkRes k px (winI X0 Y0 X1 x y R) ((2 * R + 1) * (2 * R + 1)))
  | _, _ => none
theorem pRk (hs : Sorts Try.prog 97) : PureA Try.prog 73 (srcSpec SRk) := by
  refine srcSpec_ok (Nat.le_of_ble_eq_true (by kernel_rfl)) Try.func73 (code := cdRk) (by kernel_rfl) (fun X0 Y0 X1 Y1 lP px k r d v lK ks lC cs X A u e => ?_) (fun X0 Y0 X1 Y1 lP px k r d v lK ks lC cs X A u nK nC cP cK zK cC zC e hA => ?_)
  · unfold SRk at e
    split at e
    · simp only [Option.some.injEq, Prod.mk.injEq] at e; obtain ⟨rfl, rfl⟩ := e
      exact ⟨rfl, rfl, by kernel_rfl⟩
    · cases e
  · unfold SRk at e
    split at e
    · rename_i R x y
      simp only [Option.some.injEq, Prod.mk.injEq] at e; obtain ⟨rfl, rfl⟩ := e
      exact tgRk hs nK nC X0 Y0 X1 Y1 x y lP cP k d v R lK cK zK lC cC zC ks cs px (hA _ (by simp)) (hA (k = 2 ∨ k = 3 ∨ k = 4) (by simp))
    · cases e
end Go.Proofs.Ytadejpmecljjpaa
namespace Go.Proofs.Ytadejpmecljjpaa
open Go Go.Eng
def admB (a b c d : Int) : Bool := within a (-1048576) 1048576 && (within b (-1048576) 1048576 && (within c (-1048576) 1048576 && within d (-1048576) 1048576))
def areI (a b c d : Int) : Int := if emptyB a b c d = true then 0 else w64 (w64 (c - a) * w64 (d - b))
def insB (a b c d e f g h : Int) : Bool := emptyB a b c d || (decide (e ≤ a) && (decide (c ≤ g) && (decide (f ≤ b) && decide (d ≤ h))))
def cleV (a b c d : Int) : V := if d = 0 then mkP 0 0 0 0 else mkP a b c d
def metN (k : Int) : Nat := if k = 1 then 68 else if k = 5 then 69 else if k = 6 then 70 else if k = 7 then 71 else if k = 8 then 72 else 73
def metV (k : Int) : V := .fn (.func (metN k)) [] []
theorem rAd (a b c d : Int) : RunIs Try.prog csC [(6,.split),(11,.split),(16,.split)] 1000 0 Try.f44 [] (bodyOf Try.f44) (startSt [.agg [.int .i64 a, .int .i64 b, .int .i64 c, .int .i64 d]] .nil 0)
    []
    [([((within a (-1048576 : Int) (1048576 : Int)), true), ((within b (-1048576 : Int) (1048576 : Int)), true), ((within c (-1048576 : Int) (1048576 : Int)), true)],
      [],
      .ret (.bool (within d (-1048576 : Int) (1048576 : Int))) (hL []) 0),
    ([((within a (-1048576 : Int) (1048576 : Int)), true), ((within b (-1048576 : Int) (1048576 : Int)), true), ((within c (-1048576 : Int) (1048576 : Int)), false)],
      [],
      .ret (.bool false) (hL []) 0),
    ([((within a (-1048576 : Int) (1048576 : Int)), true), ((within b (-1048576 : Int) (1048576 : Int)), false), ((false), true)],
      [],
      .ret (.bool (within d (-1048576 : Int) (1048576 : Int))) (hL []) 0),
    ([((within a (-1048576 : Int) (1048576 : Int)), true), ((within b (-1048576 : Int) (1048576 : Int)), false), ((false), false)],
      [],
      .ret (.bool false) (hL []) 0),
    ([((within a (-1048576 : Int) (1048576 : Int)), false), ((false), true), ((within c (-1048576 : Int) (1048576 : Int)), true)],
      [],
      .ret (.bool (within d (-1048576 : Int) (1048576 : Int))) (hL []) 0),
    ([((within a (-1048576 : Int) (1048576 : Int)), false), ((false), true), ((within c (-1048576 : Int) (1048576 : Int)), false)],
      [],
      .ret (.bool false) (hL []) 0),
    ([((within a (-1048576 : Int) (1048576 : Int)), false), ((false), false), ((false), true)],
      [],
      .ret (.bool (within d (-1048576 : Int) (1048576 : Int))) (hL []) 0),
    ([((within a (-1048576 : Int) (1048576 : Int)), false), ((false), false), ((false), false)],
      [],
      .ret (.bool false) (hL []) 0)]
  := by unfold RunIs; kernel_rfl
theorem tgZAd (a b c d : Int) : TG Try.prog 0 Try.f44.ntmps (bodyOf Try.f44) (startSt [.agg [.int .i64 a, .int .i64 b, .int .i64 c, .int .i64 d]] .nil 0) (RetG Try.prog 0 Try.f44 fun z _ _ => z = .bool (admB a b c d)) := by
  refine TG_ret XC mo _ (by kernel_rfl) (rAd a b c d) fun g hg hc => ?_
  simp only [List.mem_cons, List.not_mem_nil, or_false] at hg
  rcases hg with rfl | rfl | rfl | rfl | rfl | rfl | rfl | rfl <;> (refine ⟨by simp, _, _, _, rfl, ?_⟩; simp only [List.mem_cons, List.not_mem_nil, or_false, forall_eq_or_imp, forall_eq] at hc; (first | (simp_all [admB]; done) | (simp_all [admB]; first | rfl | (intros; omega))))
def specAd : List V → Option (List Prop × V)
  | [.agg [.int .i64 a, .int .i64 b, .int .i64 c, .int .i64 d]] => some ([], .bool (admB a b c d))
  | _ => none
theorem one_Ad : OneW Try.prog 44 (pureW specAd) := by
  refine pureW_ok (Nat.le_of_ble_eq_true (by kernel_rfl)) fun args A v e => ?_
  unfold specAd at e
  split at e
  · simp only [Option.some.injEq, Prod.mk.injEq] at e; obtain ⟨rfl, rfl⟩ := e
    exact ⟨rfl, by first | rfl | (simp only [admB]; split <;> rfl), fun _ => pure_calls mo po Try.func44 (by kernel_rfl) (by kernel_rfl) rfl (tgZAd _ _ _ _)⟩
  · cases e
theorem rAr (a b c d : Int) : RunIs Try.prog csC [(4,.split)] 1000 0 Try.f45 [] (bodyOf Try.f45) (startSt [.agg [.int .i64 a, .int .i64 b, .int .i64 c, .int .i64 d]] .nil 0)
    []
    [([((emptyB a b c d), true)],
      [],
      .ret (.int .i64 0) (hL []) 0),
    ([((emptyB a b c d), false)],
      [],
      .ret (.int .i64 (IntKind.i64.wrap (IntKind.i64.wrap (c - a) * IntKind.i64.wrap (d - b)))) (hL []) 0)]
  := by unfold RunIs; kernel_rfl
theorem tgZAr (a b c d : Int) : TG Try.prog 0 Try.f45.ntmps (bodyOf Try.f45) (startSt [.agg [.int .i64 a, .int .i64 b, .int .i64 c, .int .i64 d]] .nil 0) (RetG Try.prog 0 Try.f45 fun z _ _ => z = .int .i64 (areI a b c d)) := by
  refine TG_ret XC mo _ (by kernel_rfl) (rAr a b c d) fun g hg hc => ?_
  simp only [List.mem_cons, List.not_mem_nil, or_false] at hg
  rcases hg with rfl | rfl <;> (refine ⟨by simp, _, _, _, rfl, ?_⟩; simp only [List.mem_cons, List.not_mem_nil, or_false, forall_eq_or_imp, forall_eq] at hc; (first | (simp_all [areI]; done) | (simp_all [areI]; first | rfl | (intros; omega))))
def specAr : List V → Option (List Prop × V)
  | [.agg [.int .i64 a, .int .i64 b, .int .i64 c, .int .i64 d]] => some ([], .int .i64 (areI a b c d))
  | _ => none
theorem one_Ar : OneW Try.prog 45 (pureW specAr) := by
  refine pureW_ok (Nat.le_of_ble_eq_true (by kernel_rfl)) fun args A v e => ?_
  unfold specAr at e
  split at e
  · simp only [Option.some.injEq, Prod.mk.injEq] at e; obtain ⟨rfl, rfl⟩ := e
    exact ⟨rfl, by first | rfl | (simp only [areI]; split <;> rfl), fun _ => pure_calls mo po Try.func45 (by kernel_rfl) (by kernel_rfl) rfl (tgZAr _ _ _ _)⟩
  · cases e
theorem rIn (a b c d e f g h : Int) : RunIs Try.prog csC [(7,.split),(13,.split),(20,.split),(27,.split)] 1000 0 Try.f46 [] (bodyOf Try.f46) (startSt [.agg [.int .i64 a, .int .i64 b, .int .i64 c, .int .i64 d], .agg [.int .i64 e, .int .i64 f, .int .i64 g, .int .i64 h]] .nil 0)
    []
    [([((emptyB a b c d), true)],
      [],
      .ret (.bool true) (hL []) 0),
    ([((emptyB a b c d), false), ((decide (e ≤ a)), true), ((decide (c ≤ g)), true), ((decide (f ≤ b)), true)],
      [],
      .ret (.bool (decide (d ≤ h))) (hL []) 0),
    ([((emptyB a b c d), false), ((decide (e ≤ a)), true), ((decide (c ≤ g)), true), ((decide (f ≤ b)), false)],
      [],
      .ret (.bool false) (hL []) 0),
    ([((emptyB a b c d), false), ((decide (e ≤ a)), true), ((decide (c ≤ g)), false), ((false), true)],
      [],
      .ret (.bool (decide (d ≤ h))) (hL []) 0),
    ([((emptyB a b c d), false), ((decide (e ≤ a)), true), ((decide (c ≤ g)), false), ((false), false)],
      [],
      .ret (.bool false) (hL []) 0),
    ([((emptyB a b c d), false), ((decide (e ≤ a)), false), ((false), true), ((decide (f ≤ b)), true)],
      [],
      .ret (.bool (decide (d ≤ h))) (hL []) 0),
    ([((emptyB a b c d), false), ((decide (e ≤ a)), false), ((false), true), ((decide (f ≤ b)), false)],
      [],
      .ret (.bool false) (hL []) 0),
    ([((emptyB a b c d), false), ((decide (e ≤ a)), false), ((false), false), ((false), true)],
      [],
      .ret (.bool (decide (d ≤ h))) (hL []) 0),
    ([((emptyB a b c d), false), ((decide (e ≤ a)), false), ((false), false), ((false), false)],
      [],
      .ret (.bool false) (hL []) 0)]
  := by unfold RunIs; kernel_rfl
theorem tgZIn (a b c d e f g h : Int) : TG Try.prog 0 Try.f46.ntmps (bodyOf Try.f46) (startSt [.agg [.int .i64 a, .int .i64 b, .int .i64 c, .int .i64 d], .agg [.int .i64 e, .int .i64 f, .int .i64 g, .int .i64 h]] .nil 0) (RetG Try.prog 0 Try.f46 fun z _ _ => z = .bool (insB a b c d e f g h)) := by
  refine TG_ret XC mo _ (by kernel_rfl) (rIn a b c d e f g h) fun g hg hc => ?_
  simp only [List.mem_cons, List.not_mem_nil, or_false] at hg
  rcases hg with rfl | rfl | rfl | rfl | rfl | rfl | rfl | rfl | rfl <;> (refine ⟨by simp, _, _, _, rfl, ?_⟩; simp only [List.mem_cons, List.not_mem_nil, or_false, forall_eq_or_imp, forall_eq] at hc; (first | (simp_all [insB]; done) | (simp_all [insB]; first | rfl | (intros; omega))))
def specIn : List V → Option (List Prop × V)
  | [.agg [.int .i64 a, .int .i64 b, .int .i64 c, .int .i64 d], .agg [.int .i64 e, .int .i64 f, .int .i64 g, .int .i64 h]] => some ([], .bool (insB a b c d e f g h))
  | _ => none
theorem one_In : OneW Try.prog 46 (pureW specIn) := by
  refine pureW_ok (Nat.le_of_ble_eq_true (by kernel_rfl)) fun args A v e => ?_
  unfold specIn at e
  split at e
  · simp only [Option.some.injEq, Prod.mk.injEq] at e; obtain ⟨rfl, rfl⟩ := e
    exact ⟨rfl, by first | rfl | (simp only [insB]; split <;> rfl), fun _ => pure_calls mo po Try.func46 (by kernel_rfl) (by kernel_rfl) rfl (tgZIn _ _ _ _ _ _ _ _)⟩
  · cases e
theorem rCl (a b c d : Int) : RunIs Try.prog csC [(5,.split)] 1000 0 Try.f48 [] (bodyOf Try.f48) (startSt [.agg [.int .u8 a, .int .u8 b, .int .u8 c, .int .u8 d]] .nil 0)
    []
    [([((d == (0 : Int)), true)],
      [],
      .ret (.agg [.int .u8 0, .int .u8 0, .int .u8 0, .int .u8 0]) (hL []) 0),
    ([((d == (0 : Int)), false)],
      [],
      .ret (.agg [.int .u8 a, .int .u8 b, .int .u8 c, .int .u8 d]) (hL []) 0)]
  := by unfold RunIs; kernel_rfl
theorem tgZCl (a b c d : Int) : TG Try.prog 0 Try.f48.ntmps (bodyOf Try.f48) (startSt [.agg [.int .u8 a, .int .u8 b, .int .u8 c, .int .u8 d]] .nil 0) (RetG Try.prog 0 Try.f48 fun z _ _ => z = cleV a b c d) := by
  refine TG_ret XC mo _ (by kernel_rfl) (rCl a b c d) fun g hg hc => ?_
  simp only [List.mem_cons, List.not_mem_nil, or_false] at hg
  rcases hg with rfl | rfl <;> (refine ⟨by simp, _, _, _, rfl, ?_⟩; simp only [List.mem_cons, List.not_mem_nil, or_false, forall_eq_or_imp, forall_eq] at hc; (first | (simp_all [cleV, mkP]; done) | (simp_all [cleV, mkP]; first | rfl | (intros; omega))))
def specCl : List V → Option (List Prop × V)
  | [.agg [.int .u8 a, .int .u8 b, .int .u8 c, .int .u8 d]] => some ([], cleV a b c d)
  | _ => none
theorem one_Cl : OneW Try.prog 48 (pureW specCl) := by
  refine pureW_ok (Nat.le_of_ble_eq_true (by kernel_rfl)) fun args A v e => ?_
  unfold specCl at e
  split at e
  · simp only [Option.some.injEq, Prod.mk.injEq] at e; obtain ⟨rfl, rfl⟩ := e
    exact ⟨rfl, by first | rfl | (simp only [cleV, mkP]; split <;> rfl), fun _ => pure_calls mo po Try.func48 (by kernel_rfl) (by kernel_rfl) rfl (tgZCl _ _ _ _)⟩
  · cases e
theorem rMe (k : Int) : RunIs Try.prog csC [(5,.split), (7,.split), (9,.split), (11,.split), (13,.split)] 1000 0 Try.f47 [] (bodyOf Try.f47) (startSt [.int .i64 k] .nil 0)
    []
    [([((k == (1 : Int)), true)],
      [],
      .ret (.fn (.func 68) [] []) (hL []) 0),
    ([((k == (1 : Int)), false), ((k == (5 : Int)), true)],
      [],
      .ret (.fn (.func 69) [] []) (hL []) 0),
    ([((k == (1 : Int)), false), ((k == (5 : Int)), false), ((k == (6 : Int)), true)],
      [],
      .ret (.fn (.func 70) [] []) (hL []) 0),
    ([((k == (1 : Int)), false), ((k == (5 : Int)), false), ((k == (6 : Int)), false), ((k == (7 : Int)), true)],
      [],
      .ret (.fn (.func 71) [] []) (hL []) 0),
    ([((k == (1 : Int)), false), ((k == (5 : Int)), false), ((k == (6 : Int)), false), ((k == (7 : Int)), false), ((k == (8 : Int)), true)],
      [],
      .ret (.fn (.func 72) [] []) (hL []) 0),
    ([((k == (1 : Int)), false), ((k == (5 : Int)), false), ((k == (6 : Int)), false), ((k == (7 : Int)), false), ((k == (8 : Int)), false)],
      [],
      .ret (.fn (.func 73) [] []) (hL []) 0)]
  := by unfold RunIs; kernel_rfl
theorem tgZMe (k : Int) : TG Try.prog 0 Try.f47.ntmps (bodyOf Try.f47) (startSt [.int .i64 k] .nil 0) (RetG Try.prog 0 Try.f47 fun z _ _ => z = metV k) := by
  refine TG_ret XC mo _ (by kernel_rfl) (rMe k) fun g hg hc => ?_
  simp only [List.mem_cons, List.not_mem_nil, or_false] at hg
  rcases hg with rfl | rfl | rfl | rfl | rfl | rfl <;> (refine ⟨by simp, _, _, _, rfl, ?_⟩; simp only [List.mem_cons, List.not_mem_nil, or_false, forall_eq_or_imp, forall_eq] at hc; (first | (simp_all [metV, metN]; done) | (simp_all [metV, metN]; first | rfl | (intros; omega))))
def specMe : List V → Option (List Prop × V)
  | [.int .i64 k] => some ([], metV k)
  | _ => none
theorem one_Me : OneW Try.prog 47 (pureW specMe) := by
  refine pureW_ok (Nat.le_of_ble_eq_true (by kernel_rfl)) fun args A v e => ?_
  unfold specMe at e
  split at e
  · simp only [Option.some.injEq, Prod.mk.injEq] at e; obtain ⟨rfl, rfl⟩ := e
    exact ⟨rfl, by first | rfl | (simp only [metV, metN]; split <;> rfl), fun _ => pure_calls mo po Try.func47 (by kernel_rfl) (by kernel_rfl) rfl (tgZMe _)⟩
  · cases e
end Go.Proofs.Ytadejpmecljjpaa
