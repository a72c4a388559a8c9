/- FilterApply: the reference's Apply: its pieces. No conditions. -/
import Derived.Test.YtadejpmecljjpaaFlApG
set_option linter.unusedVariables false
set_option linter.unusedSimpArgs false
set_option linter.unusedSectionVars false
namespace Go.Proofs.Ytadejpmecljjpaa
open Go Go.Eng
noncomputable abbrev WV6 : CtrW := addW 51 (readW specPi) WV5
theorem WV6_ok : CtrWOk Try.prog WV6 := addW_ok (readW_ok one_Pi) WV5_ok
noncomputable abbrev csV6 : CallS := callX Try.prog WV6 H0 1000 40
noncomputable abbrev XV6 : CX Try.prog := CX.of mo po WV6_ok H0 1000 40
noncomputable abbrev cdRA : Code := bodyOf Try.f16
noncomputable abbrev tlRA : Code := tailN 9 cdRA
noncomputable abbrev lpRA : Code := seqL tlRA
noncomputable abbrev olRA : Code := inner (seqR lpRA)
noncomputable abbrev enRA : Code := seqR tlRA
def slP8 (f : Bool) (m : Nat) : V := match f with | true => .slc none 0 0 0 | false => .slc (some (8, 0)) m m 4
def o8 (f : Bool) (o : O) : List (Nat × O) := match f with | true => [] | false => [(8, o)]
def nx8 (f : Bool) : Nat := match f with | true => 8 | false => 9
def raV (a b c e : Int) (f : Bool) (m : Nat) : V := .agg [.int .i64 a, .int .i64 b, .int .i64 c, .int .i64 e, match f with | true => .slc none 0 0 0 | false => .slc (some (3, 0)) m m 4, .int .i64 0]
def rerV (z : Int) : V := .agg [.int .i64 0, .int .i64 0, .int .i64 0, .int .i64 0, .slc none 0 0 0, .int .i64 z]
def raO (f : Bool) (ot : List Int) : Option (List Int) := match f with | true => none | false => some ot
section
variable (nK nC : Bool) (X0 Y0 X1 Y1 a b c e : Int) (lP cP zP : Nat) (k r d v : Int) (lK cK zK lC cC zC : Nat) (ks cs px : List Int) (f : Bool) (m : Nat) (o : O)
abbrev raS : St := startSt [FV k r (slK nK 0 lK cK zK 1) d v (slK nC 1 lC cC zC 1), iV5 X0 Y0 X1 Y1 (slK false 2 lP cP zP 4), .agg [.int .i64 a, .int .i64 b, .int .i64 c, .int .i64 e]] (rH [rwK nK .i64 ks, rwK nC .i64 cs, rwK false .u8 px]) 3
def raRw : List (Nat × O) := rwL nK 0 .i64 ks ++ (rwL nC 1 .i64 cs ++ [(2, .ints .u8 px)])
def raH (u : Option (List Int)) : Tr O := hL (raRw nK nC ks cs px ++ oL u)
def frRA : List (Nat × V) := [(3, .ptr (some (3, 0))), (4, .ptr (some (4, 0))), (5, .ptr (some (5, 0))), (6, .ptr (some (6, 0))), (11, .ptr (some (7, 0)))]
def lsRA : List (Nat × O) := raRw nK nC ks cs px ++ ([(3, .cells (FV k r (slK nK 0 lK cK zK 1) d v (slK nC 1 lC cC zC 1)).cells), (4, .cells (iV5 X0 Y0 X1 Y1 (.slc (some (2, 0)) lP cP 4)).cells), (5, bx4 a b c e), (6, .cells [.int .i64 0, .int .i64 0, .int .i64 0, .int .i64 0, .slc none 0 0 0, .int .i64 0]), (7, .cells [.int .i64 a, .int .i64 b, .int .i64 c, .int .i64 e, slP8 f m])] ++ o8 f o)
def sRA : St := stG frRA (hL (lsRA nK nC X0 Y0 X1 Y1 a b c e lP cP k r d v lK cK zK lC cC zC ks cs px f m o)) (nx8 f)
def sRAy (y : Int) : St := stG (frRA ++ [(12, .int .i64 y)]) (hL (lsRA nK nC X0 Y0 X1 Y1 a b c e lP cP k r d v lK cK zK lC cC zC ks cs px f m o)) (nx8 f)
def sRAx (y x : Int) : St := stG (frRA ++ [(12, .int .i64 y), (13, .int .i64 x)]) (hL (lsRA nK nC X0 Y0 X1 Y1 a b c e lP cP k r d v lK cK zK lC cC zC ks cs px f m o)) (nx8 f)
theorem ra_e0 : ∃ L, RunIs Try.prog csV6 [(22, .give (.bool true))] 1000 3 Try.f16 [] cdRA (raS nK nC X0 Y0 X1 Y1 a b c e lP cP zP k r d v lK cK zK lC cC zC ks cs px) L
    [([], fa4 nK nC lK lC ks cs ++ [pBq (!vB nK nC k r d v lK lC ks cs) true], .ret (rerV 1) (raH nK nC ks cs px none) 3)] := by
  cases nK <;> cases nC <;> exact RunIs.of (by kernel_rfl) (by kernel_rfl) (by kernel_rfl)
theorem ra_e1 : ∃ L, RunIs Try.prog csV6 [(22, .give (.bool false)), (25, .give (.bool true))] 1000 3 Try.f16 [] cdRA (raS nK nC X0 Y0 X1 Y1 a b c e lP cP zP k r d v lK cK zK lC cC zC ks cs px) L
    [([], fa4 nK nC lK lC ks cs ++ [pBq (!vB nK nC k r d v lK lC ks cs) false, pBq (!admB X0 Y0 X1 Y1) true], .ret (rerV 1) (raH nK nC ks cs px none) 3)] := by
  cases nK <;> cases nC <;> exact RunIs.of (by kernel_rfl) (by kernel_rfl) (by kernel_rfl)
theorem ra_e2 : ∃ L, RunIs Try.prog csV6 [(22, .give (.bool false)), (25, .give (.bool false)), (29, .give (.bool true))] 1000 3 Try.f16 [] cdRA (raS nK nC X0 Y0 X1 Y1 a b c e lP cP zP k r d v lK cK zK lC cC zC ks cs px) L
    [([], fa4 nK nC lK lC ks cs ++ [pBq (!vB nK nC k r d v lK lC ks cs) false, pBq (!admB X0 Y0 X1 Y1) false, pBq (!admB a b c e) true], .ret (rerV 1) (raH nK nC ks cs px none) 3)] := by
  cases nK <;> cases nC <;> exact RunIs.of (by kernel_rfl) (by kernel_rfl) (by kernel_rfl)
theorem ra_e3 : ∃ L, RunIs Try.prog csV6 [(22, .give (.bool false)), (25, .give (.bool false)), (29, .give (.bool false)), (38, .give (.bool true))] 1000 3 Try.f16 [] cdRA (raS nK nC X0 Y0 X1 Y1 a b c e lP cP zP k r d v lK cK zK lC cC zC ks cs px) L
    [([], fa4 nK nC lK lC ks cs ++ [pBq (!vB nK nC k r d v lK lC ks cs) false, pBq (!admB X0 Y0 X1 Y1) false, pBq (!admB a b c e) false, pBq ((lP : Int) != areI X0 Y0 X1 Y1) true], .ret (rerV 1) (raH nK nC ks cs px none) 3)] := by
  cases nK <;> cases nC <;> exact RunIs.of (by kernel_rfl) (by kernel_rfl) (by kernel_rfl)
theorem ra_e4 : ∃ L, RunIs Try.prog csV6 [(22, .give (.bool false)), (25, .give (.bool false)), (29, .give (.bool false)), (38, .give (.bool false)), (43, .give (.bool true))] 1000 3 Try.f16 [] cdRA (raS nK nC X0 Y0 X1 Y1 a b c e lP cP zP k r d v lK cK zK lC cC zC ks cs px) L
    [([], fa4 nK nC lK lC ks cs ++ [pBq (!vB nK nC k r d v lK lC ks cs) false, pBq (!admB X0 Y0 X1 Y1) false, pBq (!admB a b c e) false, pBq ((lP : Int) != areI X0 Y0 X1 Y1) false, pBq (decide (areI a b c e > 262144)) true], .ret (rerV 45) (raH nK nC ks cs px none) 3)] := by
  cases nK <;> cases nC <;> exact RunIs.of (by kernel_rfl) (by kernel_rfl) (by kernel_rfl)
theorem ra_e5 : ∃ L, RunIs Try.prog csV6 [(22, .give (.bool false)), (25, .give (.bool false)), (29, .give (.bool false)), (38, .give (.bool false)), (43, .give (.bool false)), (52, .give (.bool true))] 1000 3 Try.f16 [] cdRA (raS nK nC X0 Y0 X1 Y1 a b c e lP cP zP k r d v lK cK zK lC cC zC ks cs px) L
    [([], fa4 nK nC lK lC ks cs ++ ([pBq (!vB nK nC k r d v lK lC ks cs) false, pBq (!admB X0 Y0 X1 Y1) false, pBq (!admB a b c e) false, pBq ((lP : Int) != areI X0 Y0 X1 Y1) false, pBq (decide (areI a b c e > 262144)) false] ++ (fa4 nK nC lK lC ks cs ++ [pBq (!insB (ndQ nK nC a b c e k r d v lK lC ks cs).1 (ndQ nK nC a b c e k r d v lK lC ks cs).2.1 (ndQ nK nC a b c e k r d v lK lC ks cs).2.2.1 (ndQ nK nC a b c e k r d v lK lC ks cs).2.2.2 X0 Y0 X1 Y1) true])), .ret (rerV 1) (raH nK nC ks cs px none) 3)] := by
  cases nK <;> cases nC <;> exact RunIs.of (by kernel_rfl) (by kernel_rfl) (by kernel_rfl)
theorem ra_g : ∃ L, RunIs Try.prog csV6 [(22, .give (.bool false)), (25, .give (.bool false)), (29, .give (.bool false)), (38, .give (.bool false)), (43, .give (.bool false)), (52, .give (.bool false))] 1000 3 Try.f16 [3, 4, 5, 6, 11] (headN 9 cdRA) (raS nK nC X0 Y0 X1 Y1 a b c e lP cP zP k r d v lK cK zK lC cC zC ks cs px) L
    [([], fa4 nK nC lK lC ks cs ++ ([pBq (!vB nK nC k r d v lK lC ks cs) false, pBq (!admB X0 Y0 X1 Y1) false, pBq (!admB a b c e) false, pBq ((lP : Int) != areI X0 Y0 X1 Y1) false, pBq (decide (areI a b c e > 262144)) false] ++ (fa4 nK nC lK lC ks cs ++ [pBq (!insB (ndQ nK nC a b c e k r d v lK lC ks cs).1 (ndQ nK nC a b c e k r d v lK lC ks cs).2.1 (ndQ nK nC a b c e k r d v lK lC ks cs).2.2.1 (ndQ nK nC a b c e k r d v lK lC ks cs).2.2.2 X0 Y0 X1 Y1) false])), .to .normal (sRA nK nC X0 Y0 X1 Y1 a b c e lP cP k r d v lK cK zK lC cC zC ks cs px true 0 o))] := by
  cases nK <;> cases nC <;> exact RunIs.of (by kernel_rfl) (by kernel_rfl) (by kernel_rfl)
theorem ra_1 : RunIs Try.prog csV6 [] 1000 3 Try.f16 [3, 4, 5, 6, 11, 12] (seqL lpRA) (sRA nK nC X0 Y0 X1 Y1 a b c e lP cP k r d v lK cK zK lC cC zC ks cs px true 0 o) []
    [([], [], .to .normal (sRAy nK nC X0 Y0 X1 Y1 a b c e lP cP k r d v lK cK zK lC cC zC ks cs px true 0 o b))] := by
  unfold RunIs; cases nK <;> cases nC <;> kernel_rfl
theorem ra_2 (ot : List Int) (y : Int) : RunIs Try.prog csV6 [(61, .split)] 1000 3 Try.f16 [3, 4, 5, 6, 11, 12] (seqL (inner olRA)) (sRAy nK nC X0 Y0 X1 Y1 a b c e lP cP k r d v lK cK zK lC cC zC ks cs px f m (.own .u8 ot) y) []
    [([(decide (y < e), true)], [], .to .normal (sRAy nK nC X0 Y0 X1 Y1 a b c e lP cP k r d v lK cK zK lC cC zC ks cs px f m (.own .u8 ot) y)), ([(decide (y < e), false)], [], .to (.exit 0) (sRAy nK nC X0 Y0 X1 Y1 a b c e lP cP k r d v lK cK zK lC cC zC ks cs px f m (.own .u8 ot) y))] := by
  unfold RunIs; cases f <;> cases nK <;> cases nC <;> kernel_rfl
theorem ra_3 (ot : List Int) (y : Int) : RunIs Try.prog csV6 [] 1000 3 Try.f16 [3, 4, 5, 6, 11, 12, 13] (seqL (gI olRA)) (sRAy nK nC X0 Y0 X1 Y1 a b c e lP cP k r d v lK cK zK lC cC zC ks cs px f m (.own .u8 ot) y) []
    [([], [], .to .normal (sRAx nK nC X0 Y0 X1 Y1 a b c e lP cP k r d v lK cK zK lC cC zC ks cs px f m (.own .u8 ot) y a))] := by
  unfold RunIs; cases f <;> cases nK <;> cases nC <;> kernel_rfl
abbrev raQ (x y : Int) : Q4 := apQ (kdOf k) false false X0 Y0 X1 k r d v (ln nC lC) (rw' nK ks) (rw' nC cs) px x y
abbrev raPk (x y : Int) : Prop := PiOk k (rw' nK ks) (rw' nC cs) px X0 Y0 X1 x y r d v (ln nK lK) (ln nC lC) lP
theorem ra_40 (ot : List Int) (y x : Int) : ∃ L, RunIs Try.prog csV6 [(69, .split), (71, .give (.int .i64 (x + 1)))] 1000 3 Try.f16 [3, 4, 5, 6, 11, 12, 13] (inner (gL olRA)) (sRAx nK nC X0 Y0 X1 Y1 a b c e lP cP k r d v lK cK zK lC cC zC ks cs px true 0 (.own .u8 ot) y x) L
    [([(decide (x < c), true)], [raPk nK nC X0 Y0 X1 lP k r d v lK lC ks cs px x y, upP x (x + 1)], .to .normal (sRAx nK nC X0 Y0 X1 Y1 a b c e lP cP k r d v lK cK zK lC cC zC ks cs px false 1 (px4 (raQ nK nC X0 Y0 X1 k r d v lC ks cs px x y)) y (x + 1))),
     ([(decide (x < c), false)], [], .to (.exit 2) (sRAx nK nC X0 Y0 X1 Y1 a b c e lP cP k r d v lK cK zK lC cC zC ks cs px true 0 (.own .u8 ot) y x))] := by
  cases nK <;> cases nC <;> exact RunIs.of (by kernel_rfl) (by kernel_rfl) (by kernel_rfl)
theorem ra_4 (ot : List Int) (y x : Int) : ∃ L, RunIs Try.prog csV6 [(69, .split), (71, .give (.int .i64 (x + 1)))] 1000 3 Try.f16 [3, 4, 5, 6, 11, 12, 13] (inner (gL olRA)) (sRAx nK nC X0 Y0 X1 Y1 a b c e lP cP k r d v lK cK zK lC cC zC ks cs px false m (.own .u8 ot) y x) L
    [([(decide (x < c), true)], raPk nK nC X0 Y0 X1 lP k r d v lK lC ks cs px x y :: (cnA m ot ++ [upP x (x + 1)]), .to .normal (sRAx nK nC X0 Y0 X1 Y1 a b c e lP cP k r d v lK cK zK lC cC zC ks cs px false (m + 1) (.own .u8 (outA m ot (raQ nK nC X0 Y0 X1 k r d v lC ks cs px x y))) y (x + 1))),
     ([(decide (x < c), false)], [], .to (.exit 2) (sRAx nK nC X0 Y0 X1 Y1 a b c e lP cP k r d v lK cK zK lC cC zC ks cs px false m (.own .u8 ot) y x))] := by
  cases nK <;> cases nC <;> exact RunIs.of (by kernel_rfl) (by kernel_rfl) (by kernel_rfl)
theorem ra_own (q : Q4) (y x : Int) : ownS [(8, .u8)] (sRAx nK nC X0 Y0 X1 Y1 a b c e lP cP k r d v lK cK zK lC cC zC ks cs px false 1 (px4 q) y x) = some (sRAx nK nC X0 Y0 X1 Y1 a b c e lP cP k r d v lK cK zK lC cC zC ks cs px false 1 (.own .u8 (outA 0 [] q)) y x) := by
  cases nK <;> cases nC <;> kernel_rfl
theorem ra_6 (ot : List Int) (y x : Int) : RunIs Try.prog csV6 [(63, .give (.int .i64 (y + 1)))] 1000 3 Try.f16 [3, 4, 5, 6, 11, 12] (seqR (gB1 olRA)) (sRAx nK nC X0 Y0 X1 Y1 a b c e lP cP k r d v lK cK zK lC cC zC ks cs px f m (.own .u8 ot) y x) []
    [([], [upP y (y + 1)], .to .normal (sRAy nK nC X0 Y0 X1 Y1 a b c e lP cP k r d v lK cK zK lC cC zC ks cs px f m (.own .u8 ot) (y + 1)))] := by
  unfold RunIs; cases f <;> cases nK <;> cases nC <;> kernel_rfl
theorem ra_n (ot : List Int) (y : Int) : normG 3 [3, 4, 5, 6, 11, 12] (sRAy nK nC X0 Y0 X1 Y1 a b c e lP cP k r d v lK cK zK lC cC zC ks cs px f m (.own .u8 ot) y) = some (sRAy nK nC X0 Y0 X1 Y1 a b c e lP cP k r d v lK cK zK lC cC zC ks cs px f m (.own .u8 ot) y) := by
  cases f <;> cases nK <;> cases nC <;> kernel_rfl
theorem ra_7 (ot : List Int) (y : Int) : RunIs Try.prog csV6 [] 1000 3 Try.f16 [] enRA (sRAy nK nC X0 Y0 X1 Y1 a b c e lP cP k r d v lK cK zK lC cC zC ks cs px f m (.own .u8 ot) y) []
    [([], [], .ret (raV a b c e f m) (raH nK nC ks cs px (raO f ot)) (oN (raO f ot)))] := by
  unfold RunIs; cases f <;> cases nK <;> cases nC <;> kernel_rfl
end
end Go.Proofs.Ytadejpmecljjpaa
namespace Go.Proofs.Ytadejpmecljjpaa
open Go Go.Eng
section
variable (nK nC : Bool) (X0 Y0 X1 Y1 a b c e : Int) (lP cP zP : Nat) (k r d v : Int) (lK cK zK lC cC zC : Nat) (ks cs px : List Int)
theorem ra_err (hf : ∀ p ∈ fa4 nK nC lK lC ks cs, p) (hE : aE nK nC X0 Y0 X1 Y1 a b c e lP k r d v lK lC ks cs ≠ 0) : TG Try.prog 3 Try.f16.ntmps cdRA (raS nK nC X0 Y0 X1 Y1 a b c e lP cP zP k r d v lK cK zK lC cC zC ks cs px)
    (RetG Try.prog 3 Try.f16 fun u h n => u = rerV (aE nK nC X0 Y0 X1 Y1 a b c e lP k r d v lK lC ks cs) ∧ h = raH nK nC ks cs px none ∧ n = 3) := by
  have hneg : ∀ {x : Bool}, x = true → (!x) = false := fun h => by rw [h]; rfl
  have hneg' : ∀ {x : Bool}, x = false → (!x) = true := fun h => by rw [h]; rfl
  unfold aE apErr at hE ⊢
  by_cases h0 : validB k r d v (ln nK lK) (rw' nK ks) (ln nC lC) (rw' nC cs) = false
  · rw [if_pos h0]
    obtain ⟨L, hr⟩ := ra_e0 nK nC X0 Y0 X1 Y1 a b c e lP cP zP k r d v lK cK zK lC cC zC ks cs px
    refine TG_ret XV6 mo _ (by kernel_rfl) hr fun g hg _ => ?_
    rw [List.mem_singleton] at hg; subst hg
    refine ⟨fun p hp => ?_, _, _, _, rfl, rfl, rfl, rfl⟩
    rcases List.mem_append.1 hp with hp | hp
    · exact hf p hp
    simp only [List.mem_cons, List.not_mem_nil, or_false] at hp
    rcases hp with rfl
    · exact pBq_t (hneg' h0)
  rw [if_neg h0] at hE ⊢
  have h0 : validB k r d v (ln nK lK) (rw' nK ks) (ln nC lC) (rw' nC cs) = true := Bool.of_not_eq_false h0
  by_cases h1 : admB X0 Y0 X1 Y1 = false
  · rw [if_pos h1]
    obtain ⟨L, hr⟩ := ra_e1 nK nC X0 Y0 X1 Y1 a b c e lP cP zP k r d v lK cK zK lC cC zC ks cs px
    refine TG_ret XV6 mo _ (by kernel_rfl) hr fun g hg _ => ?_
    rw [List.mem_singleton] at hg; subst hg
    refine ⟨fun p hp => ?_, _, _, _, rfl, rfl, rfl, rfl⟩
    rcases List.mem_append.1 hp with hp | hp
    · exact hf p hp
    simp only [List.mem_cons, List.not_mem_nil, or_false] at hp
    rcases hp with rfl | rfl
    · exact pBq_f (hneg h0)
    · exact pBq_t (hneg' h1)
  rw [if_neg h1] at hE ⊢
  have h1 : admB X0 Y0 X1 Y1 = true := Bool.of_not_eq_false h1
  by_cases h2 : (lP : Int) ≠ areI X0 Y0 X1 Y1
  · rw [if_pos h2]
    by_cases h3 : admB a b c e = false
    · skip
      obtain ⟨L, hr⟩ := ra_e2 nK nC X0 Y0 X1 Y1 a b c e lP cP zP k r d v lK cK zK lC cC zC ks cs px
      refine TG_ret XV6 mo _ (by kernel_rfl) hr fun g hg _ => ?_
      rw [List.mem_singleton] at hg; subst hg
      refine ⟨fun p hp => ?_, _, _, _, rfl, rfl, rfl, rfl⟩
      rcases List.mem_append.1 hp with hp | hp
      · exact hf p hp
      simp only [List.mem_cons, List.not_mem_nil, or_false] at hp
      rcases hp with rfl | rfl | rfl
      · exact pBq_f (hneg h0)
      · exact pBq_f (hneg h1)
      · exact pBq_t (hneg' h3)
    · have h3 : admB a b c e = true := Bool.of_not_eq_false h3
      obtain ⟨L, hr⟩ := ra_e3 nK nC X0 Y0 X1 Y1 a b c e lP cP zP k r d v lK cK zK lC cC zC ks cs px
      refine TG_ret XV6 mo _ (by kernel_rfl) hr fun g hg _ => ?_
      rw [List.mem_singleton] at hg; subst hg
      refine ⟨fun p hp => ?_, _, _, _, rfl, rfl, rfl, rfl⟩
      rcases List.mem_append.1 hp with hp | hp
      · exact hf p hp
      simp only [List.mem_cons, List.not_mem_nil, or_false] at hp
      rcases hp with rfl | rfl | rfl | rfl
      · exact pBq_f (hneg h0)
      · exact pBq_f (hneg h1)
      · exact pBq_f (hneg h3)
      · exact pBq_t (bne_iff_ne.2 h2)
  rw [if_neg h2] at hE ⊢
  have h2 : (lP : Int) = areI X0 Y0 X1 Y1 := Classical.not_not.1 h2
  by_cases h3 : admB a b c e = false
  · rw [if_pos h3]
    obtain ⟨L, hr⟩ := ra_e2 nK nC X0 Y0 X1 Y1 a b c e lP cP zP k r d v lK cK zK lC cC zC ks cs px
    refine TG_ret XV6 mo _ (by kernel_rfl) hr fun g hg _ => ?_
    rw [List.mem_singleton] at hg; subst hg
    refine ⟨fun p hp => ?_, _, _, _, rfl, rfl, rfl, rfl⟩
    rcases List.mem_append.1 hp with hp | hp
    · exact hf p hp
    simp only [List.mem_cons, List.not_mem_nil, or_false] at hp
    rcases hp with rfl | rfl | rfl
    · exact pBq_f (hneg h0)
    · exact pBq_f (hneg h1)
    · exact pBq_t (hneg' h3)
  rw [if_neg h3] at hE ⊢
  have h3 : admB a b c e = true := Bool.of_not_eq_false h3
  by_cases h4 : areI a b c e > 262144
  · rw [if_pos h4]
    obtain ⟨L, hr⟩ := ra_e4 nK nC X0 Y0 X1 Y1 a b c e lP cP zP k r d v lK cK zK lC cC zC ks cs px
    refine TG_ret XV6 mo _ (by kernel_rfl) hr fun g hg _ => ?_
    rw [List.mem_singleton] at hg; subst hg
    refine ⟨fun p hp => ?_, _, _, _, rfl, rfl, rfl, rfl⟩
    rcases List.mem_append.1 hp with hp | hp
    · exact hf p hp
    simp only [List.mem_cons, List.not_mem_nil, or_false] at hp
    rcases hp with rfl | rfl | rfl | rfl | rfl
    · exact pBq_f (hneg h0)
    · exact pBq_f (hneg h1)
    · exact pBq_f (hneg h3)
    · exact pBq_f (bne_eq_false_iff_eq.2 h2)
    · exact pBq_t (decide_eq_true h4)
  rw [if_neg h4] at hE ⊢
  by_cases h5 : insB (areaQ true k r v a b c e (-1)).1 (areaQ true k r v a b c e (-1)).2.1 (areaQ true k r v a b c e (-1)).2.2.1 (areaQ true k r v a b c e (-1)).2.2.2 X0 Y0 X1 Y1 = false
  · rw [if_pos h5]
    have h5' : insB (ndQ nK nC a b c e k r d v lK lC ks cs).1 (ndQ nK nC a b c e k r d v lK lC ks cs).2.1 (ndQ nK nC a b c e k r d v lK lC ks cs).2.2.1 (ndQ nK nC a b c e k r d v lK lC ks cs).2.2.2 X0 Y0 X1 Y1 = false := by
      unfold ndQ vB; rw [h0]; exact h5
    obtain ⟨L, hr⟩ := ra_e5 nK nC X0 Y0 X1 Y1 a b c e lP cP zP k r d v lK cK zK lC cC zC ks cs px
    refine TG_ret XV6 mo _ (by kernel_rfl) hr fun g hg _ => ?_
    rw [List.mem_singleton] at hg; subst hg
    refine ⟨fun p hp => ?_, _, _, _, rfl, rfl, rfl, rfl⟩
    rcases List.mem_append.1 hp with hp | hp
    · exact hf p hp
    rcases List.mem_append.1 hp with hp | hp
    · simp only [List.mem_cons, List.not_mem_nil, or_false] at hp
      rcases hp with rfl | rfl | rfl | rfl | rfl
      · exact pBq_f (hneg h0)
      · exact pBq_f (hneg h1)
      · exact pBq_f (hneg h3)
      · exact pBq_f (bne_eq_false_iff_eq.2 h2)
      · exact pBq_f (decide_eq_false h4)
    rcases List.mem_append.1 hp with hp | hp
    · exact hf p hp
    · rw [List.mem_singleton] at hp; subst hp
      exact pBq_t (hneg' h5')
  rw [if_neg h5] at hE
  exact absurd rfl hE
theorem ra_good (hf : ∀ p ∈ fa4 nK nC lK lC ks cs, p) (hp : lP * 4 ≤ px.length) (hu : u8r px) (hE : aE nK nC X0 Y0 X1 Y1 a b c e lP k r d v lK lC ks cs = 0) : TG Try.prog 3 Try.f16.ntmps cdRA (raS nK nC X0 Y0 X1 Y1 a b c e lP cP zP k r d v lK cK zK lC cC zC ks cs px)
    (RetG Try.prog 3 Try.f16 fun u h n => u = raV a b c e (Nat.beq (rcN a b c e) 0) (rcN a b c e) ∧ h = raH nK nC ks cs px (raO (Nat.beq (rcN a b c e) 0) (apO X0 Y0 X1 a b c e px k r d v (rw' nK ks) (ln nC lC) (rw' nC cs))) ∧ n = oN (raO (Nat.beq (rcN a b c e) 0) (apO X0 Y0 X1 a b c e px k r d v (rw' nK ks) (ln nC lC) (rw' nC cs)))) := by
  obtain ⟨h0, h1, h2, h3, h4, h5⟩ := aE_0 hE
  have hneg : ∀ {x : Bool}, x = true → (!x) = false := fun h => by rw [h]; rfl
  obtain ⟨m0, m1, m2, m3⟩ := admB_iff h3
  unfold m20 at m0 m1 m2 m3
  have hA := ap_valid h0 hf ⟨h1, h2, hp⟩ h3 h4 h5
  have h5' : insB (ndQ nK nC a b c e k r d v lK lC ks cs).1 (ndQ nK nC a b c e k r d v lK lC ks cs).2.1 (ndQ nK nC a b c e k r d v lK lC ks cs).2.2.1 (ndQ nK nC a b c e k r d v lK lC ks cs).2.2.2 X0 Y0 X1 Y1 = true := by
    unfold ndQ vB; rw [h0]; exact h5
  have hpk : ∀ x y, a ≤ x → x < c → b ≤ y → y < e → raPk nK nC X0 Y0 X1 lP k r d v lK lC ks cs px x y := fun x y q1 q2 q3 q4 =>
    ⟨h0, hu, by omega, by omega, hf _ (by simp [fa4]), ⟨hf _ (by simp [fa4]), hf _ (by simp [fa4])⟩, hA.ok x y q1 q2 q3 q4⟩
  obtain ⟨L, hr⟩ := ra_g nK nC X0 Y0 X1 Y1 a b c e lP cP zP k r d v lK cK zK lC cC zC ks cs px (.own .u8 [])
  refine TG_isN1 9 XV6 mo (by kernel_rfl) hr (fun p hp' => ?_) ?_
  · rcases List.mem_append.1 hp' with hp' | hp'
    · exact hf p hp'
    rcases List.mem_append.1 hp' with hp' | hp'
    · simp only [List.mem_cons, List.not_mem_nil, or_false] at hp'
      rcases hp' with rfl | rfl | rfl | rfl | rfl
      · exact pBq_f (hneg h0)
      · exact pBq_f (hneg h1)
      · exact pBq_f (hneg h3)
      · exact pBq_f (bne_eq_false_iff_eq.2 h2)
      · exact pBq_f (decide_eq_false (by omega))
    rcases List.mem_append.1 hp' with hp' | hp'
    · exact hf p hp'
    · rw [List.mem_singleton] at hp'; subst hp'
      exact pBq_f (hneg h5')
  show TG Try.prog 3 Try.f16.ntmps tlRA _ _
  refine TG_seq' (by kernel_rfl) ?_
  refine TG_isSeq XV6 mo anyR (by kernel_rfl) (by kernel_rfl) (ra_1 nK nC X0 Y0 X1 Y1 a b c e lP cP k r d v lK cK zK lC cC zC ks cs px (.own .u8 [])) fun g hg _ => ?_
  rw [List.mem_singleton] at hg; subst hg
  refine ⟨by simp, fun s' hs' => TG_norm hs' ?_⟩
  generalize hpe : apP (kdOf k) false false X0 Y0 X1 a b c k r d v (ln nC lC) (rw' nK ks) (rw' nC cs) px = P
  have hpab : ∀ i j, j < (c - a).toNat → P (i * (c - a).toNat + j) = raQ nK nC X0 Y0 X1 k r d v lC ks cs px (a + Int.ofNat j) (b + Int.ofNat i) := fun i j hj => by
    rw [← hpe]; exact apP_ab (kdOf k) false false X0 Y0 X1 a b c k r d v (ln nC lC) (rw' nK ks) (rw' nC cs) px i j hj
  refine TG_block (i := 0) (by kernel_rfl) (TG_mono (TG_grid (i1 := 1) (i2 := 2) (io := 0) (LY := [3, 4, 5, 6, 11, 12]) (LX := [3, 4, 5, 6, 11, 12, 13]) (fn := Try.f16) (F := 1000) (Hy := [(61, .split)]) (a := a) (b := b) (c := c) (e := e)
      (SY := fun m y => sRAy nK nC X0 Y0 X1 Y1 a b c e lP cP k r d v lK cK zK lC cC zC ks cs px (Nat.beq m 0) m (.own .u8 (outR P m)) y)
      (SX := fun m y x => sRAx nK nC X0 Y0 X1 Y1 a b c e lP cP k r d v lK cK zK lC cC zC ks cs px (Nat.beq m 0) m (.own .u8 (outR P m)) y x)
      XV6 mo (by kernel_rfl) (by omega) (by omega)
      (fun m y => ra_2 nK nC X0 Y0 X1 Y1 a b c e lP cP k r d v lK cK zK lC cC zC ks cs px _ m _ y)
      (fun m y => ra_3 nK nC X0 Y0 X1 Y1 a b c e lP cP k r d v lK cK zK lC cC zC ks cs px _ m _ y)
      (fun m y x => ⟨_, ra_6 nK nC X0 Y0 X1 Y1 a b c e lP cP k r d v lK cK zK lC cC zC ks cs px _ m _ y x⟩)
      (fun i j hi hj => ?_) ⟨_, ra_n nK nC X0 Y0 X1 Y1 a b c e lP cP k r d v lK cK zK lC cC zC ks cs px true 0 (outR P 0) b⟩) ?_)
  · have hI : Int.ofNat i = (i : Int) := rfl
    have hJ : Int.ofNat j = (j : Int) := rfl
    have hlt : j < (c - a).toNat → i * (c - a).toNat + j < 262144 := fun hjl => by
      have h7 := Nat.mul_le_mul_right (c - a).toNat (show i + 1 ≤ (e - b).toNat by omega)
      rw [Nat.add_mul, Nat.one_mul] at h7
      have := hA.sz
      omega
    have hup : upP (a + Int.ofNat j) (a + Int.ofNat j + 1) := upI (by rw [hJ]; omega) (by rw [hJ]; omega)
    have hq : a + Int.ofNat j < c → raPk nK nC X0 Y0 X1 lP k r d v lK lC ks cs px (a + Int.ofNat j) (b + Int.ofNat i) := fun hl => hpk _ _ (by rw [hJ]; omega) hl (by rw [hI]; omega) (by rw [hI]; omega)
    unfold GStep
    cases hm : i * (c - a).toNat + j with
    | zero =>
      obtain ⟨L, hr⟩ := ra_40 nK nC X0 Y0 X1 Y1 a b c e lP cP k r d v lK cK zK lC cC zC ks cs px (outR P 0) (b + Int.ofNat i) (a + Int.ofNat j)
      refine TG_is XV6 mo anyR (by kernel_rfl) hr fun g hg hc => ?_
      simp only [List.mem_cons, List.not_mem_nil, or_false] at hg
      rcases hg with rfl | rfl
      · have hl := of_decide_eq_true (hc _ (List.mem_singleton.2 rfl))
        have hjl : j < (c - a).toNat := by rw [hJ] at hl; omega
        refine ⟨fun p hp => ?_, fun s' hs' => .inl ⟨hjl, rfl, _, _, [(8, .u8)], hs', ?_⟩⟩
        · simp only [List.mem_cons, List.not_mem_nil, or_false] at hp
          rcases hp with rfl | rfl
          · exact hq hl
          · exact hup
        · rw [ra_own]
          have := hpab i j hjl
          rw [hm] at this
          rw [← this]; rfl
      · have hl := of_decide_eq_false (hc _ (List.mem_singleton.2 rfl))
        exact ⟨by simp, fun s' hs' => .inr ⟨by rw [hJ] at hl; omega, rfl, _, hs'⟩⟩
    | succ m' =>
      obtain ⟨L, hr⟩ := ra_4 nK nC X0 Y0 X1 Y1 a b c e lP cP k r d v lK cK zK lC cC zC ks cs px (m' + 1) (outR P (m' + 1)) (b + Int.ofNat i) (a + Int.ofNat j)
      refine TG_is XV6 mo anyR (by kernel_rfl) hr fun g hg hc => ?_
      simp only [List.mem_cons, List.not_mem_nil, or_false] at hg
      rcases hg with rfl | rfl
      · have hl := of_decide_eq_true (hc _ (List.mem_singleton.2 rfl))
        have hjl : j < (c - a).toNat := by rw [hJ] at hl; omega
        have h9 := hlt hjl
        refine ⟨fun p hp => ?_, fun s' hs' => .inl ⟨hjl, rfl, _, _, [], hs', ?_⟩⟩
        · rcases List.mem_cons.1 hp with rfl | hp
          · exact hq hl
          rcases List.mem_append.1 hp with hp | hp
          · exact cnA_ok (by omega) (by omega) (outR_len _ _) p hp
          · rw [List.mem_singleton] at hp; subst hp; exact hup
        · rw [ownS_nil]
          have := hpab i j hjl
          rw [hm] at this
          rw [← this]; rfl
      · have hl := of_decide_eq_false (hc _ (List.mem_singleton.2 rfl))
        exact ⟨by simp, fun s' hs' => .inr ⟨by rw [hJ] at hl; omega, rfl, _, hs'⟩⟩
  · rintro w s2 ⟨rfl, L, yy, hs2⟩
    rw [outOf_exit]
    simp only [andThen]
    refine TG_norm hs2 ?_
    refine TG_ret XV6 mo _ (by kernel_rfl) (ra_7 nK nC X0 Y0 X1 Y1 a b c e lP cP k r d v lK cK zK lC cC zC ks cs px _ _ _ yy) fun g hg _ => ?_
    rw [List.mem_singleton] at hg; subst hg
    refine ⟨by simp, _, _, _, rfl, rfl, ?_, ?_⟩
    · unfold apO; rw [hpe]; rfl
    · unfold apO; rw [hpe]; rfl
end
def ROk : AF := fun X0 Y0 X1 Y1 a b c e lP px k r d v lK ks lC cs => (fa0 lK ks lC cs ++ [lP * 4 ≤ px.length, u8r px, apErr X0 Y0 X1 Y1 a b c e lP k r d v lK ks lC cs = 0, emptyB a b c e = false],
  raV a b c e false (rcN a b c e), some (apO X0 Y0 X1 a b c e px k r d v ks lC cs))
def REr (z : Int) : AF := fun X0 Y0 X1 Y1 a b c e lP _ k r d v lK ks lC cs => (fa0 lK ks lC cs ++ [apErr X0 Y0 X1 Y1 a b c e lP k r d v lK ks lC cs = z, z ≠ 0], rerV z, none)
theorem raSpec_ok {S : AF} (run : ∀ X0 Y0 X1 Y1 a b c e lP cP zP px k r d v lK ks lC cs (nK nC : Bool) cK zK cC zC, (∀ p ∈ (S X0 Y0 X1 Y1 a b c e lP px k r d v (ln nK lK) (rw' nK ks) (ln nC lC) (rw' nC cs)).1, p) →
      TG Try.prog 3 Try.f16.ntmps cdRA (raS nK nC X0 Y0 X1 Y1 a b c e lP cP zP k r d v lK cK zK lC cC zC ks cs px) (RetG Try.prog 3 Try.f16 fun u h n => u = (S X0 Y0 X1 Y1 a b c e lP px k r d v (ln nK lK) (rw' nK ks) (ln nC lC) (rw' nC cs)).2.1 ∧ h = raH nK nC ks cs px (S X0 Y0 X1 Y1 a b c e lP px k r d v (ln nK lK) (rw' nK ks) (ln nC lC) (rw' nC cs)).2.2 ∧ n = oN (S X0 Y0 X1 Y1 a b c e lP px k r d v (ln nK lK) (rw' nK ks) (ln nC lC) (rw' nC cs)).2.2)) : OneW Try.prog 16 (apSpec S) := by
  refine ⟨Nat.le_of_ble_eq_true (by kernel_rfl), fun args h n A u h' n' e0 hA E w args' ra g hd hc => ?_⟩
  unfold apSpec at e0
  split at e0
  case h_2 => cases e0
  rename_i k r sK' d v sC' X0 Y0 X1 Y1 P a b c e
  split at e0
  case h_2 => cases e0
  rename_i aP lP px hP
  split at e0
  case h_2 => cases e0
  rename_i aK lK ks hK
  split at e0
  case h_2 => cases e0
  rename_i aC lC cs hC
  split at e0
  rename_i A1 u1 o hS
  split at e0
  case h_2 => cases e0
  rename_i q he
  simp only [Option.some.injEq, Prod.mk.injEq] at e0
  obtain ⟨rfl, hq⟩ := e0
  subst hq
  obtain ⟨nK, cK, zK, RK⟩ := rowArg hK
  obtain ⟨nC, cC, zC, RC⟩ := rowArg hC
  obtain ⟨nP, cP, zP, RP⟩ := rowArg hP
  obtain rfl : nP = false := RP.nn
  obtain ⟨y1, ys1, r1, ⟨y2, ys2, r2, rs, rfl⟩, rfl⟩ := ra
  obtain ⟨g2, d2, n2⟩ := rows_ok (soft_good g) [aK, aC, some aP] [rwK nK .i64 ks, rwK nC .i64 cs, rwK false .u8 px] (Nat.le_of_ble_eq_true rfl) (by
    intro j k' ks' hj
    match j, hj with
    | 0, hj => obtain ⟨m, o, full, e, q⟩ := RK.row k' ks' (Option.some.inj hj); exact ⟨m, o, full, by rw [← e]; rfl, q⟩
    | 1, hj => obtain ⟨m, o, full, e, q⟩ := RC.row k' ks' (Option.some.inj hj); exact ⟨m, o, full, by rw [← e]; rfl, q⟩
    | 2, hj => obtain ⟨m, o, full, e, q⟩ := RP.row k' ks' (Option.some.inj hj); exact ⟨m, o, full, by rw [← e]; rfl, q⟩
    | j + 3, hj => simp at hj)
  have f1 : ln nK lK = lK := by cases nK; exact rfl; exact (RK.nl rfl).1.symm
  have f2 : rw' nK ks = ks := by cases nK; exact rfl; exact (RK.nl rfl).2.symm
  have f3 : ln nC lC = lC := by cases nC; exact rfl; exact (RC.nl rfl).1.symm
  have f4 : rw' nC cs = cs := by cases nC; exact rfl; exact (RC.nl rfl).2.symm
  have ht := run X0 Y0 X1 Y1 a b c e lP cP zP px k r d v lK ks lC cs nK nC cK zK cC zC (by rw [f1, f2, f3, f4, hS]; exact hA)
  rw [f1, f2, f3, f4, hS] at ht
  have er : emb [] 3 (u1, raH nK nC ks cs px o, oN o) h n = some (u, h', n') := by
    unfold raH
    rw [emb_rows 3 n (oN o) (raRw nK nC ks cs px) _ _ h (by kernel_rfl) (by cases nK <;> cases nC <;> rfl) (by cases o <;> rfl)]
    exact he
  exact (calls_of_TG1 mo po Try.func16 (by kernel_rfl) (by kernel_rfl) _ _ _ ht (E := E.rows [aK, aC, some aP]) ⟨y1, _, fl_rel (fun z q => RK.rel E _ 0 z rfl q) (fun z q => RC.rel E _ 1 z rfl q) r1, ⟨y2, _, im_rel (fun t q => RP.rel E _ 2 t rfl q) r2, frees_noE (by rfl) rs, rfl⟩, rfl⟩ g2 d2).mono fun en w' c' => emb_ok (E1 := E.rows [aK, aC, some aP]) g hd rfl (fun m m' _ q => by cases q) n2 er c'
theorem one_RaOk : OneW Try.prog 16 (apSpec ROk) := by
  refine raSpec_ok fun X0 Y0 X1 Y1 a b c e lP cP zP px k r d v lK ks lC cs nK nC cK zK cC zC hA => ?_
  have h1 : ln nK lK ≤ (rw' nK ks).length := hA _ (by simp [ROk, fa0])
  have h2 : ln nK lK ≤ 1000 := hA _ (by simp [ROk, fa0])
  have h3 : ln nC lC ≤ (rw' nC cs).length := hA _ (by simp [ROk, fa0])
  have h4 : ln nC lC ≤ 1000 := hA _ (by simp [ROk, fa0])
  have h5 : lP * 4 ≤ px.length := hA _ (by simp [ROk])
  have h5' : u8r px := hA _ (by simp [ROk])
  have h6 : aE nK nC X0 Y0 X1 Y1 a b c e lP k r d v lK lC ks cs = 0 := hA _ (by simp [ROk])
  have h7 : emptyB a b c e = false := hA _ (by simp [ROk])
  have hg := ra_good nK nC X0 Y0 X1 Y1 a b c e lP cP zP k r d v lK cK zK lC cC zC ks cs px (by
    simp only [fa4, List.mem_cons, List.not_mem_nil, or_false]
    rintro p (rfl | rfl | rfl | rfl) <;> assumption) h5 h5' h6
  rw [beq_pos (rcN_pos h7)] at hg
  exact hg
theorem one_RaEr (z : Int) : OneW Try.prog 16 (apSpec (REr z)) := by
  refine raSpec_ok fun X0 Y0 X1 Y1 a b c e lP cP zP px k r d v lK ks lC cs nK nC cK zK cC zC hA => ?_
  have h1 : ln nK lK ≤ (rw' nK ks).length := hA _ (by simp [REr, fa0])
  have h2 : ln nK lK ≤ 1000 := hA _ (by simp [REr, fa0])
  have h3 : ln nC lC ≤ (rw' nC cs).length := hA _ (by simp [REr, fa0])
  have h4 : ln nC lC ≤ 1000 := hA _ (by simp [REr, fa0])
  have h6 : aE nK nC X0 Y0 X1 Y1 a b c e lP k r d v lK lC ks cs = z := hA _ (by simp [REr])
  have h7 : z ≠ 0 := hA (z ≠ 0) (by simp [REr])
  have hg := ra_err nK nC X0 Y0 X1 Y1 a b c e lP cP zP k r d v lK cK zK lC cC zC ks cs px (by
    simp only [fa4, List.mem_cons, List.not_mem_nil, or_false]
    rintro p (rfl | rfl | rfl | rfl) <;> assumption) (by rw [h6]; exact h7)
  rw [h6] at hg
  exact hg
end Go.Proofs.Ytadejpmecljjpaa
