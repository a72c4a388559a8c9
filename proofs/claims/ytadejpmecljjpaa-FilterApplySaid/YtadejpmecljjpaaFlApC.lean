/- FilterApply: windows of the reference. No conditions. -/
import Derived.Test.YtadejpmecljjpaaFlApB
import Derived.Test.YtadejpmecljjpaaFlSixteen
set_option linter.unusedVariables false
set_option linter.unusedSimpArgs false
set_option linter.unusedSectionVars false
namespace Go.Proofs.Ytadejpmecljjpaa
open Go Go.Eng
section
variable {P : Program} {n0 N : Nat} {fn : Func} {ol : Code} {i1 i2 io : Nat} {LY LX : List Nat} {SY : Nat → Int → St} {SX : Nat → Int → Int → St} {a b c e : Int} {Hy : List (Nat × Fix)} {F : Nat}
theorem TG_grid2 {cy : Int → Bool} (hcy : ∀ y, cy y = true ↔ y < e) (X' : CX P) (hm : P.follows .mixedOrders = true) (hg : gridOk N i1 i2 ol = true) (bb : -2000000 ≤ b ∧ b ≤ 2000000) (be : -2000000 ≤ e ∧ e ≤ 2000000)
    (y1 : ∀ m y, RunIs P X'.cs Hy F n0 fn LY (seqL (inner ol)) (SY m y) [] [([(cy y, true)], [], .to .normal (SY m y)), ([(cy y, false)], [], .to (.exit io) (SY m y))])
    (y2 : ∀ m y, RunIs P X'.cs [] F n0 fn LX (seqL (gI ol)) (SY m y) [] [([], [], .to .normal (SX m y a))])
    (y3' : ∀ m y x, ∃ H3, RunIs P X'.cs H3 F n0 fn LY (seqR (gB1 ol)) (SX m y x) [] [([], [upP y (y + 1)], .to .normal (SY m (y + 1)))])
    (hx : ∀ i j, i < (e - b).toNat → j ≤ (c - a).toNat → GStep P n0 N SX i2 a b c ol i j)
    (s0 : ∃ L, normG n0 L (SY 0 b) = some (SY 0 b)) :
    TG P n0 N ol (SY 0 b) (fun z s' => z = .exit io ∧ ∃ L yy, normG n0 L s' = some (SY ((e - b).toNat * (c - a).toNat) yy)) := by
  simp only [gridOk, Bool.and_eq_true] at hg
  obtain ⟨g1, g2, g3, g4, g5, g6, g7, g8, g9, g10, g11⟩ := hg
  obtain ⟨L0, h0⟩ := s0
  refine TG_loop_inv (fun k' s => ∃ i, k' = (e - b).toNat - i ∧ i ≤ (e - b).toNat ∧ ∃ L, normG n0 L s = some (SY (i * (c - a).toNat) (b + Int.ofNat i))) g1 ?_ (e - b).toNat ⟨0, rfl, Nat.zero_le _, L0, by
      have hz : b + Int.ofNat 0 = b := by show b + ((0 : Nat) : Int) = _; omega
      rw [hz, Nat.zero_mul]; exact h0⟩
  rintro k' s ⟨i, hk, hi, L, hs1⟩
  refine TG_norm hs1 ?_
  have hI : Int.ofNat i = (i : Int) := rfl
  have htest : (b + Int.ofNat i < e) ↔ i < (e - b).toNat := by rw [hI]; omega
  refine TG_isSeq X' hm anyR g2 g3 (y1 _ _) fun g hg hc => ?_
  simp only [List.mem_cons, List.not_mem_nil, or_false] at hg
  rcases hg with rfl | rfl
  · have hlt : i < (e - b).toNat := htest.1 ((hcy _).1 (hc _ (List.mem_singleton.2 rfl)))
    refine ⟨by simp, fun s' hs' => TG_norm hs' ?_⟩
    refine TG_seq' g4 ?_
    refine TG_block (i := i1) g5 ?_
    refine TG_isSeq X' hm anyR g6 g7 (y2 _ _) fun g hg _ => ?_
    rw [List.mem_singleton] at hg; subst hg
    refine ⟨by simp, fun s' hs' => ?_⟩
    refine TG_block (i := i2) g8 ?_
    refine TG_mono (Q1 := fun z s' => z = .exit i2 ∧ ∃ L xx, normG n0 L s' = some (SX ((i + 1) * (c - a).toNat) (b + Int.ofNat i) xx)) ?_ ?_
    · refine TG_loop_inv (fun k' s => ∃ j, k' = (c - a).toNat - j ∧ j ≤ (c - a).toNat ∧ ∃ L s1 o, normG n0 L s = some s1 ∧ ownS o s1 = some (SX (i * (c - a).toNat + j) (b + Int.ofNat i) (a + Int.ofNat j))) g9 ?_ (c - a).toNat ⟨0, rfl, Nat.zero_le _, LX, _, [], by
        have hz : a + Int.ofNat 0 = a := by show a + ((0 : Nat) : Int) = _; omega
        rw [hz, Nat.add_zero]; exact ⟨hs', rfl⟩⟩
      rintro k' s ⟨j, hk, hj, L, s1, o, hs, ho⟩
      refine TG_norm hs (TG_own o ho ?_)
      refine TG_mono (hx i j hlt hj) ?_
      rintro y s' (⟨hj', rfl, L', s1', o', hs', ho'⟩ | ⟨hj', rfl, L', hs'⟩)
      · have e1 : a + Int.ofNat (j + 1) = a + Int.ofNat j + 1 := by show a + ((j + 1 : Nat) : Int) = a + (j : Int) + 1; omega
        simp only [andThen]
        refine ⟨(c - a).toNat - (j + 1), by omega, j + 1, rfl, by omega, L', s1', o', hs', ?_⟩
        rw [e1]; exact ho'
      · simp only [andThen]
        refine ⟨trivial, L', a + Int.ofNat j, ?_⟩
        have e2 : (i + 1) * (c - a).toNat = i * (c - a).toNat + j := by rw [Nat.add_mul, Nat.one_mul, hj']
        rw [e2]; exact hs'
    · rintro z s' ⟨rfl, L, xx, hs2⟩
      rw [outOf_exit]
      simp only [outOf, andThen]
      refine TG_norm hs2 ?_
      obtain ⟨H3, hr3⟩ := y3' ((i + 1) * (c - a).toNat) (b + Int.ofNat i) xx
      refine TG_is X' hm anyR g11 hr3 fun g hg _ => ?_
      rw [List.mem_singleton] at hg; subst hg
      refine ⟨by
        intro p hp; rw [List.mem_singleton] at hp; subst hp
        exact upI (by rw [hI]; omega) (by rw [hI]; omega), fun s' hs' => ?_⟩
      refine ⟨(e - b).toNat - (i + 1), by omega, i + 1, rfl, by omega, LY, ?_⟩
      have e3 : b + Int.ofNat (i + 1) = b + Int.ofNat i + 1 := by show b + ((i + 1 : Nat) : Int) = b + (i : Int) + 1; omega
      rw [e3]; exact hs'
  · have hge : ¬ i < (e - b).toNat := fun q => by have h1 := (hcy _).2 (htest.2 q); have h2 := hc _ (List.mem_singleton.2 rfl); simp only at h2; rw [h1] at h2; cases h2
    have hie : i = (e - b).toNat := by omega
    refine ⟨by simp, fun s' hs' => ?_⟩
    refine ⟨rfl, LY, b + Int.ofNat i, ?_⟩
    subst hie
    exact hs'
end
noncomputable abbrev cdWi : Code := bodyOf Try.f74
noncomputable abbrev tlWi : Code := tailN 2 cdWi
noncomputable abbrev lpWi : Code := seqL tlWi
noncomputable abbrev olWi : Code := inner (seqR lpWi)
noncomputable abbrev enWi : Code := seqR tlWi
section
variable (X0 Y0 X1 Y1 x y r : Int) (lP cP z : Nat) (px : List Int) (m : Nat) (o : O)
def frW : List (Nat × V) := [(4, .ptr (some (1, 0))), (1, .int .i64 x), (2, .int .i64 y), (3, .int .i64 r), (9, .slc (some (2, 0)) m m 4)]
def lsW : List (Nat × O) := [(0, .ints .u8 px), (1, .cells (iV5 X0 Y0 X1 Y1 (.slc (some (0, 0)) lP cP 4)).cells), (2, o)]
def sW0 : St := stG (frW x y r m) (hL (lsW X0 Y0 X1 Y1 lP cP px o)) 3
def sWy (v : Int) : St := stG (frW x y r m ++ [(10, .int .i64 v)]) (hL (lsW X0 Y0 X1 Y1 lP cP px o)) 3
def sWx (v u : Int) : St := stG (frW x y r m ++ [(10, .int .i64 v), (11, .int .i64 u)]) (hL (lsW X0 Y0 X1 Y1 lP cP px o)) 3
theorem wi_1 : RunIs Try.prog csH [] 1000 1 Try.f74 [4, 1, 2, 3, 9] (headN 2 cdWi) (startSt [iV5 X0 Y0 X1 Y1 (slK false 0 lP cP z 4), .int .i64 x, .int .i64 y, .int .i64 r] (rH [rwK false .u8 px]) 1) []
    [([], [], .to .normal (sW0 X0 Y0 X1 Y1 x y r lP cP px 0 (plB true [])))] := by
  unfold RunIs; kernel_rfl
theorem wi_2 (f : Bool) (ot : List Int) : RunIs Try.prog csH [] 1000 1 Try.f74 [4, 1, 2, 3, 9, 10] (seqL lpWi) (sW0 X0 Y0 X1 Y1 x y r lP cP px m (plB f ot)) [] [([], [], .to .normal (sWy X0 Y0 X1 Y1 x y r lP cP px m (plB f ot) (w64 (y - r))))] := by
  unfold RunIs; cases f <;> kernel_rfl
theorem wi_3 (f : Bool) (ot : List Int) (v : Int) : RunIs Try.prog csH [(20, .split)] 1000 1 Try.f74 [4, 1, 2, 3, 9, 10] (seqL (inner olWi)) (sWy X0 Y0 X1 Y1 x y r lP cP px m (plB f ot) v) []
    [([(decide (v ≤ w64 (y + r)), true)], [], .to .normal (sWy X0 Y0 X1 Y1 x y r lP cP px m (plB f ot) v)), ([(decide (v ≤ w64 (y + r)), false)], [], .to (.exit 0) (sWy X0 Y0 X1 Y1 x y r lP cP px m (plB f ot) v))] := by
  unfold RunIs; cases f <;> kernel_rfl
theorem wi_4 (f : Bool) (ot : List Int) (v : Int) : RunIs Try.prog csH [] 1000 1 Try.f74 [4, 1, 2, 3, 9, 10, 11] (seqL (gI olWi)) (sWy X0 Y0 X1 Y1 x y r lP cP px m (plB f ot) v) [] [([], [], .to .normal (sWx X0 Y0 X1 Y1 x y r lP cP px m (plB f ot) v (w64 (x - r))))] := by
  unfold RunIs; cases f <;> kernel_rfl
theorem wi_50 (v u : Int) : RunIs Try.prog csH [(30, .split), (11, .give (.int .i64 (u + 1)))] 1000 1 Try.f74 [4, 1, 2, 3, 9, 10, 11] (inner (gL olWi)) (sWx X0 Y0 X1 Y1 x y r lP cP px 0 (plB true []) v u) []
    [([(decide (u ≤ w64 (x + r)), true)], atA lP px (idxE X0 Y0 X1 u v) ++ [upP u (u + 1)], .to .normal (sWx X0 Y0 X1 Y1 x y r lP cP px 1 (px4 (pixQ px (idxE X0 Y0 X1 u v))) v (u + 1))),
     ([(decide (u ≤ w64 (x + r)), false)], [], .to (.exit 2) (sWx X0 Y0 X1 Y1 x y r lP cP px 0 (plB true []) v u))] := by
  unfold RunIs; kernel_rfl
theorem wi_5 (ot : List Int) (v u : Int) : RunIs Try.prog csH [(30, .split), (11, .give (.int .i64 (u + 1)))] 1000 1 Try.f74 [4, 1, 2, 3, 9, 10, 11] (inner (gL olWi)) (sWx X0 Y0 X1 Y1 x y r lP cP px m (plB false ot) v u) []
    [([(decide (u ≤ w64 (x + r)), true)], atA lP px (idxE X0 Y0 X1 u v) ++ (cnA m ot ++ [upP u (u + 1)]), .to .normal (sWx X0 Y0 X1 Y1 x y r lP cP px (m + 1) (plB false (outA m ot (pixQ px (idxE X0 Y0 X1 u v)))) v (u + 1))),
     ([(decide (u ≤ w64 (x + r)), false)], [], .to (.exit 2) (sWx X0 Y0 X1 Y1 x y r lP cP px m (plB false ot) v u))] := by
  unfold RunIs; kernel_rfl
theorem wi_6 (f : Bool) (ot : List Int) (v u : Int) : RunIs Try.prog csH [(10, .give (.int .i64 (v + 1)))] 1000 1 Try.f74 [4, 1, 2, 3, 9, 10] (seqR (gB1 olWi)) (sWx X0 Y0 X1 Y1 x y r lP cP px m (plB f ot) v u) [] [([], [upP v (v + 1)], .to .normal (sWy X0 Y0 X1 Y1 x y r lP cP px m (plB f ot) (v + 1)))] := by
  unfold RunIs; cases f <;> kernel_rfl
theorem wi_7 (ot : List Int) (v : Int) : RunIs Try.prog csH [] 1000 1 Try.f74 [] enWi (sWy X0 Y0 X1 Y1 x y r lP cP px m (plB false ot) v) [] [([], [], .ret (.slc (some (1, 0)) m m 4) (hL (rwL false 0 .u8 px ++ [(1, .own .u8 ot)])) 2)] := by
  unfold RunIs; kernel_rfl
theorem wi_n (f : Bool) (ot : List Int) (v : Int) : normG 1 [4, 1, 2, 3, 9, 10] (sWy X0 Y0 X1 Y1 x y r lP cP px m (plB f ot) v) = some (sWy X0 Y0 X1 Y1 x y r lP cP px m (plB f ot) v) := by
  cases f <;> kernel_rfl
theorem wi_o (q : Q4) (v u : Int) : ownS [(2, .u8)] (sWx X0 Y0 X1 Y1 x y r lP cP px 1 (px4 q) v u) = some (sWx X0 Y0 X1 Y1 x y r lP cP px 1 (plB false (outA 0 [] q)) v u) := by kernel_rfl
end
def wiOk (X0 Y0 X1 x y : Int) (R lP : Nat) (px : List Int) : List Prop := [R ≤ 3, -1500000 ≤ x ∧ x ≤ 1500000, -1500000 ≤ y ∧ y ≤ 1500000, ∀ m, m < sq (Int.ofNat R) → ∀ q ∈ atA lP px (winI X0 Y0 X1 x y R m), q]
abbrev wiR (X0 Y0 X1 x y : Int) (R : Nat) (px : List Int) : List Int := outR (fun m => pixQ px (winI X0 Y0 X1 x y R m)) (sq (Int.ofNat R))
section
variable (X0 Y0 X1 Y1 x y : Int) (R lP cP z : Nat) (px : List Int)
theorem tgWi (hA : ∀ q ∈ wiOk X0 Y0 X1 x y R lP px, q) : TG Try.prog 1 Try.f74.ntmps cdWi (startSt [iV5 X0 Y0 X1 Y1 (slK false 0 lP cP z 4), .int .i64 x, .int .i64 y, .int .i64 (Int.ofNat R)] (rH [rwK false .u8 px]) 1)
    (RetG Try.prog 1 Try.f74 fun u h n => u = .slc (some (1, 0)) (sq (Int.ofNat R)) (sq (Int.ofNat R)) 4 ∧ h = hL (rwL false 0 .u8 px ++ [(1, .own .u8 (wiR X0 Y0 X1 x y R px))]) ∧ n = 2) := by
  have hR : R ≤ 3 := hA _ (by simp [wiOk])
  have hx : -1500000 ≤ x ∧ x ≤ 1500000 := hA _ (by simp [wiOk])
  have hy : -1500000 ≤ y ∧ y ≤ 1500000 := hA _ (by simp [wiOk])
  have hat : ∀ m, m < sq (Int.ofNat R) → ∀ q ∈ atA lP px (winI X0 Y0 X1 x y R m), q := hA _ (by simp [wiOk])
  have hz : Int.ofNat R = (R : Int) := rfl
  have hsq : sq (Int.ofNat R) = (2 * R + 1) * (2 * R + 1) := rfl
  have hs49 : sq (Int.ofNat R) ≤ 49 := Nat.mul_le_mul (show 2 * R + 1 ≤ 7 by omega) (show 2 * R + 1 ≤ 7 by omega)
  have hs1 := sq_pos (Int.ofNat R)
  have ea : w64 (x - Int.ofNat R) = x - R := by rw [hz]; exact w64_id (by omega) (by omega)
  have eb : w64 (y - Int.ofNat R) = y - R := by rw [hz]; exact w64_id (by omega) (by omega)
  have ec : w64 (x + Int.ofNat R) = x + R := by rw [hz]; exact w64_id (by omega) (by omega)
  have ee : w64 (y + Int.ofNat R) = y + R := by rw [hz]; exact w64_id (by omega) (by omega)
  have hW : (x + R + 1 - (x - R)).toNat = 2 * R + 1 := by omega
  have hH : (y + R + 1 - (y - R)).toNat = 2 * R + 1 := by omega
  generalize hpe : (fun m => pixQ px (winI X0 Y0 X1 x y R m)) = p
  refine TG_isN1 2 XH mo (by kernel_rfl) (wi_1 X0 Y0 X1 Y1 x y (Int.ofNat R) lP cP z px) (by simp) ?_
  show TG Try.prog 1 Try.f74.ntmps tlWi _ _
  refine TG_seq' (by kernel_rfl) ?_
  have h2 := wi_2 X0 Y0 X1 Y1 x y (Int.ofNat R) lP cP px 0 true []
  rw [eb] at h2
  refine TG_isSeq XH mo anyR (by kernel_rfl) (by kernel_rfl) h2 fun g hg _ => ?_
  rw [List.mem_singleton] at hg; subst hg
  refine ⟨by simp, fun s' hs' => TG_norm hs' ?_⟩
  have hcy : ∀ v, decide (v ≤ w64 (y + Int.ofNat R)) = true ↔ v < y + R + 1 := fun v => by rw [ee, decide_eq_true_iff]; omega
  refine TG_block (i := 0) (by kernel_rfl) (TG_mono (TG_grid2 hcy (i1 := 1) (i2 := 2) (io := 0) (LY := [4, 1, 2, 3, 9, 10]) (LX := [4, 1, 2, 3, 9, 10, 11]) (fn := Try.f74) (F := 1000) (Hy := [(20, .split)]) (a := x - R) (b := y - R) (c := x + R + 1)
      (SY := fun m v => sWy X0 Y0 X1 Y1 x y (Int.ofNat R) lP cP px m (plB (Nat.beq m 0) (outR p m)) v)
      (SX := fun m v u => sWx X0 Y0 X1 Y1 x y (Int.ofNat R) lP cP px m (plB (Nat.beq m 0) (outR p m)) v u)
      XH mo (by kernel_rfl) (by omega) (by omega)
      (fun m v => wi_3 X0 Y0 X1 Y1 x y (Int.ofNat R) lP cP px m _ _ v)
      (fun m v => by have := wi_4 X0 Y0 X1 Y1 x y (Int.ofNat R) lP cP px m (Nat.beq m 0) (outR p m) v; rw [ea] at this; exact this)
      (fun m v u => ⟨_, wi_6 X0 Y0 X1 Y1 x y (Int.ofNat R) lP cP px m _ _ v u⟩)
      (fun i j hi hj => ?_) ⟨_, wi_n X0 Y0 X1 Y1 x y (Int.ofNat R) lP cP px 0 true (outR p 0) (y - R)⟩) ?_)
  · have hI : Int.ofNat i = (i : Int) := rfl
    have hJ : Int.ofNat j = (j : Int) := rfl
    rw [hH] at hi
    rw [hW] at hj
    have htest : decide (x - R + Int.ofNat j ≤ w64 (x + Int.ofNat R)) = true ↔ j < 2 * R + 1 := by rw [ec, decide_eq_true_iff, hJ]; omega
    have hlt : j < 2 * R + 1 → i * (2 * R + 1) + j < sq (Int.ofNat R) := fun hjl => by
      have h7 := Nat.mul_le_mul_right (2 * R + 1) (show i + 1 ≤ 2 * R + 1 by omega)
      rw [Nat.add_mul, Nat.one_mul] at h7
      rw [hsq]; omega
    have hpw : j < 2 * R + 1 → p (i * (2 * R + 1) + j) = pixQ px (idxE X0 Y0 X1 (x - R + Int.ofNat j) (y - R + Int.ofNat i)) := fun hjl => by
      rw [← hpe]
      show pixQ px (winI X0 Y0 X1 x y R (i * (2 * R + 1) + j)) = _
      rw [winI_ab _ _ _ _ _ _ _ _ hjl, hz]
    have hatj : j < 2 * R + 1 → ∀ q ∈ atA lP px (idxE X0 Y0 X1 (x - R + Int.ofNat j) (y - R + Int.ofNat i)), q := fun hjl => by
      have := hat _ (hlt hjl)
      rw [winI_ab _ _ _ _ _ _ _ _ hjl, hz] at this
      exact this
    have hup : upP (x - R + Int.ofNat j) (x - R + Int.ofNat j + 1) := upI (by rw [hJ]; omega) (by rw [hJ]; omega)
    unfold GStep
    rw [hW]
    cases hm : i * (2 * R + 1) + j with
    | zero =>
      refine TG_is XH mo anyR (by kernel_rfl) (wi_50 X0 Y0 X1 Y1 x y (Int.ofNat R) lP cP px (y - R + Int.ofNat i) (x - R + Int.ofNat j)) fun g hg hc => ?_
      simp only [List.mem_cons, List.not_mem_nil, or_false] at hg
      rcases hg with rfl | rfl
      · have hjl := htest.1 (hc _ (List.mem_singleton.2 rfl))
        refine ⟨fun q hq => ?_, fun s' hs' => .inl ⟨hjl, rfl, _, _, [(2, .u8)], hs', ?_⟩⟩
        · rcases List.mem_append.1 hq with hq | hq
          · exact hatj hjl q hq
          · rw [List.mem_singleton] at hq; subst hq; exact hup
        · rw [wi_o]
          have := hpw hjl
          rw [hm] at this
          rw [← this]; rfl
      · have hge : ¬ j < 2 * R + 1 := fun q => by have h1 := htest.2 q; have h2 := hc _ (List.mem_singleton.2 rfl); simp only at h2; rw [h1] at h2; cases h2
        exact ⟨by simp, fun s' hs' => .inr ⟨by omega, rfl, _, hs'⟩⟩
    | succ m' =>
      refine TG_is XH mo anyR (by kernel_rfl) (wi_5 X0 Y0 X1 Y1 x y (Int.ofNat R) lP cP px (m' + 1) (outR p (m' + 1)) (y - R + Int.ofNat i) (x - R + Int.ofNat j)) fun g hg hc => ?_
      simp only [List.mem_cons, List.not_mem_nil, or_false] at hg
      rcases hg with rfl | rfl
      · have hjl := htest.1 (hc _ (List.mem_singleton.2 rfl))
        have h9 := hlt hjl
        refine ⟨fun q hq => ?_, fun s' hs' => .inl ⟨hjl, rfl, _, _, [], hs', ?_⟩⟩
        · rcases List.mem_append.1 hq with hq | hq
          · exact hatj hjl q hq
          rcases List.mem_append.1 hq with hq | hq
          · exact cnA_ok (by omega) (by omega) (outR_len _ _) q hq
          · rw [List.mem_singleton] at hq; subst hq; exact hup
        · rw [ownS_nil]
          have := hpw hjl
          rw [hm] at this
          rw [← this]; rfl
      · have hge : ¬ j < 2 * R + 1 := fun q => by have h1 := htest.2 q; have h2 := hc _ (List.mem_singleton.2 rfl); simp only at h2; rw [h1] at h2; cases h2
        exact ⟨by simp, fun s' hs' => .inr ⟨by omega, rfl, _, hs'⟩⟩
  · rintro w s2 ⟨rfl, L, yy, hs2⟩
    rw [outOf_exit]
    simp only [andThen]
    refine TG_norm hs2 ?_
    show TG Try.prog 1 Try.f74.ntmps enWi (sWy X0 Y0 X1 Y1 x y (Int.ofNat R) lP cP px ((y + R + 1 - (y - R)).toNat * (x + R + 1 - (x - R)).toNat) (plB (Nat.beq ((y + R + 1 - (y - R)).toNat * (x + R + 1 - (x - R)).toNat) 0) (outR p ((y + R + 1 - (y - R)).toNat * (x + R + 1 - (x - R)).toNat))) yy) _
    rw [hW, hH, ← hsq, beq_pos hs1]
    refine TG_ret XH mo _ (by kernel_rfl) (wi_7 X0 Y0 X1 Y1 x y (Int.ofNat R) lP cP px (sq (Int.ofNat R)) (outR p (sq (Int.ofNat R))) yy) fun g hg _ => ?_
    rw [List.mem_singleton] at hg; subst hg
    exact ⟨by simp, _, _, _, rfl, rfl, by rw [← hpe], rfl⟩
end
def specWi (args : List V) (h : Tr O) (n : Nat) : Option (List Prop × V × Tr O × Nat) := match args with
  | [.agg [.int .i64 X0, .int .i64 Y0, .int .i64 X1, .int .i64 Y1, P], .int .i64 x, .int .i64 y, .int .i64 r] => match rowK .u8 4 (softT h) P with
    | some (some _, lP, px) => match emb [] 1 (.slc (some (1, 0)) (sq (Int.ofNat r.toNat)) (sq (Int.ofNat r.toNat)) 4, hL [(1, .own .u8 (wiR X0 Y0 X1 x y r.toNat px))], 2) h n with
      | some q => some ((0 ≤ r) :: wiOk X0 Y0 X1 x y r.toNat lP px, q)
      | none => none
    | _ => none
  | _ => none
theorem one_Wi : OneW Try.prog 74 specWi := by
  refine ⟨Nat.le_of_ble_eq_true (by kernel_rfl), fun args h n A v h' n' e0 hA E w args' ra g hd hc => ?_⟩
  unfold specWi at e0
  split at e0
  case h_2 => cases e0
  rename_i X0 Y0 X1 Y1 P x y r
  split at e0
  case h_2 => cases e0
  rename_i aP lP px hP
  split at e0
  case h_2 => cases e0
  rename_i q he
  simp only [Option.some.injEq, Prod.mk.injEq] at e0
  obtain ⟨rfl, rfl⟩ := e0
  have hr0 : 0 ≤ r := hA _ (by simp)
  have hr : Int.ofNat r.toNat = r := Int.toNat_of_nonneg hr0
  obtain ⟨nP, cP, zP, RP⟩ := rowArg hP
  obtain rfl : nP = false := RP.nn
  obtain ⟨y0, ys, r0, rs, rfl⟩ := ra
  obtain ⟨g2, d2, n2⟩ := rows_ok (soft_good g) [some aP] [rwK false .u8 px] (Nat.le_of_ble_eq_true rfl) (by
    intro j k' ks' hj
    match j, hj with
    | 0, hj => obtain ⟨m, o, full, e, q⟩ := RP.row k' ks' (Option.some.inj hj); exact ⟨m, o, full, by rw [← e]; rfl, q⟩
    | j + 1, hj => simp at hj)
  have ht := tgWi X0 Y0 X1 Y1 x y r.toNat lP cP zP px (fun q hq => hA q (by simp [hq]))
  have er : emb [] 1 (.slc (some (1, 0)) (sq (Int.ofNat r.toNat)) (sq (Int.ofNat r.toNat)) 4, hL (rwL false 0 .u8 px ++ [(1, .own .u8 (wiR X0 Y0 X1 x y r.toNat px))]), 2) h n = some (v, h', n') := by
    rw [emb_rows 1 n 2 (rwL false 0 .u8 px) _ _ h (by kernel_rfl) (by rfl) (by rfl)]
    exact he
  rw [show (V.int .i64 (Int.ofNat r.toNat)) = V.int .i64 r by rw [hr]] at ht
  exact (calls_of_TG1 mo po Try.func74 (by kernel_rfl) (by kernel_rfl) _ _ _ ht (E := E.rows [some aP]) ⟨y0, _, im_rel (fun t q => RP.rel E _ 0 t rfl q) r0, frees_noE (by rfl) rs, rfl⟩ g2 d2).mono fun en w' c' => emb_ok (E1 := E.rows [some aP]) g hd rfl (fun m m' _ q => by cases q) n2 er c'
end Go.Proofs.Ytadejpmecljjpaa
