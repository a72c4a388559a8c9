/- FilterLocal: the whole function. No conditions. -/
import Derived.Test.YtadejpmecljjpaaFlLocA
set_option linter.unusedVariables false
set_option linter.unusedSimpArgs false
set_option linter.unusedSectionVars false
namespace Go.Proofs.Ytadejpmecljjpaa
open Go Go.Eng

theorem localB_iff {vb : Bool} {k r v : Int} (h : localB vb k r v = true) : vb = true ∧ r = 0 ∧ (k ≠ 8 ∨ v = 0) := by
  unfold localB at h
  simp only [Bool.and_eq_true, Bool.or_eq_true, beq_iff_eq, bne_iff_ne] at h
  exact h
/-- a local filter's areas -/
theorem area_loc {k v a b c e : Int} (hk : k ≠ 8 ∨ v = 0) (h1 : a < c) (h2 : b < e) (ha : m20 a) (hb : m20 b) (hc : m20 c) (he : m20 e) (sg : Int) (hsg : sg = 1 ∨ sg = -1) : areaQ true k 0 v a b c e sg = (a, b, c, e) := by
  obtain ⟨a1, a2⟩ := ha
  obtain ⟨b1, b2⟩ := hb
  obtain ⟨c1, c2⟩ := hc
  obtain ⟨e1, e2⟩ := he
  have hem : emptyB a b c e = false := emptyB_lt h1 h2
  have n0 : normQ a b c e = (a, b, c, e) := by unfold normQ; rw [hem, if_neg (by simp)]
  unfold areaQ
  rw [if_neg (by rw [hem]; simp)]
  by_cases hw : within k 1 4 = true
  · rw [if_pos hw]
    unfold growQ
    rw [hem, if_neg (by simp), w64_id (x := a - 0) (by omega) (by omega), w64_id (x := b - 0) (by omega) (by omega), w64_id (x := c + 0) (by omega) (by omega), w64_id (x := e + 0) (by omega) (by omega), Int.sub_zero, Int.sub_zero, Int.add_zero, Int.add_zero]
    exact n0
  · rw [if_neg hw]
    by_cases h8 : k = 8
    · rw [if_pos h8]
      have hv : v = 0 := by
        rcases hk with q | q
        · exact absurd h8 q
        · exact q
      subst hv
      unfold moveQ
      have z : w64 (sg * 0) = 0 := by rw [Int.mul_zero]; decide
      rw [hem, if_neg (by simp), z, Int.add_zero, Int.add_zero, Int.add_zero, Int.add_zero, w64_id (x := a) (by omega) (by omega), w64_id (x := b) (by omega) (by omega), w64_id (x := c) (by omega) (by omega), w64_id (x := e) (by omega) (by omega)]
      exact n0
    · rw [if_neg h8]
theorem wix_loc {X0 Y0 X1 x y v : Int} {k : Int} (hk : k ≠ 8 ∨ v = 0) (hx : m20 x) (hy : m20 y) : wix X0 Y0 X1 0 v x y (kdOf k) 0 = idxE X0 Y0 X1 x y := by
  obtain ⟨x1, x2⟩ := hx
  obtain ⟨y1, y2⟩ := hy
  have hwin : winI X0 Y0 X1 x y (0 : Int).toNat 0 = idxE X0 Y0 X1 x y := by
    show idxE X0 Y0 X1 (x - 0 + 0) (y - 0 + 0) = _
    rw [Int.sub_zero, Int.add_zero, Int.sub_zero, Int.add_zero]
  have h8 : kdOf k = .off → k = 8 := by
    unfold kdOf
    intro q
    split at q
    · cases q
    · split at q
      · cases q
      · split at q
        · cases q
        · split at q
          · cases q
          · split at q
            · rename_i z; exact z
            · cases q
  cases hkd : kdOf k with
  | cv => exact hwin
  | rk => exact hwin
  | off =>
    have hv : v = 0 := by
      rcases hk with q | q
      · exact absurd (h8 hkd) q
      · exact q
    subst hv
    show idxE X0 Y0 X1 (w64 (x - 0)) (w64 (y - 0)) = _
    rw [Int.sub_zero, Int.sub_zero, w64_id (by omega) (by omega), w64_id (by omega) (by omega)]
  | ton => rfl
  | inv => rfl
  | thr => rfl
/-- a local filter's pixel -/
theorem kdQ_loc {X0 Y0 X1 Z0 Z1 Z2 x y x' y' k d v : Int} {ks : List Int} {lC : Nat} {cs px px' : List Int} (hk : k ≠ 8 ∨ v = 0) (hx : m20 x) (hy : m20 y) (hx' : m20 x') (hy' : m20 y') (h : pixQ px (idxE X0 Y0 X1 x y) = pixQ px' (idxE Z0 Z1 Z2 x' y')) :
    kdQ X0 Y0 X1 px k 0 d v ks lC cs x y (kdOf k) = kdQ Z0 Z1 Z2 px' k 0 d v ks lC cs x' y' (kdOf k) := by
  rw [kdQ_eq, kdQ_eq]
  refine kdF_congr fun i hi => ?_
  have hi : i < 1 := hi
  have : i = 0 := by omega
  subst this
  rw [wix_loc hk hx hy, wix_loc hk hx' hy', h]
theorem drop_pix (px : List Int) (i : Nat) : pixQ (px.drop (0 + (Int.ofNat i).toNat * 4)) 0 = pixQ px (Int.ofNat i) := by
  have e : (Int.ofNat i).toNat = i := rfl
  have e0 : (0 : Int).toNat = 0 := rfl
  unfold pixQ pq
  simp only [List.getD_eq_getElem?_getD, List.getElem?_drop, e, e0, Nat.zero_mul, Nat.zero_add, Nat.add_zero]

section
variable (nF nM : Bool) (fs ms : List Int) (md : Md) (lF cF lM cM : Nat) (q0 q1 q2 q3 : Int)
theorem asA_ok {X0 Y0 X1 Y1 a b c e : Int} {N : Nat} {px : List Int} (h1 : N * 4 ≤ px.length) (h2 : err7 md.cl md.k md.r md.d md.v md.l md.gs X0 Y0 X1 Y1 a b c e N = 0) (h3 : emptyB a b c e = false) : ∀ p ∈ asA md.cl md.k md.r md.d md.v md.l md.gs X0 Y0 X1 Y1 a b c e N px, p := by
  simp only [asA, List.mem_cons, List.not_mem_nil, or_false]
  rintro p (rfl | rfl | rfl | rfl)
  · exact h1
  · exact h2
  · exact h3
  · exact pBq_f rfl
set_option maxRecDepth 100000 in
theorem tgLoc (hF : ln nF lF ≤ (rw' nF fs).length) (hM : ln nM lM ≤ (rw' nM ms).length) (hmd : MadeIs (rw' nF fs) (min 60 (ln nF lF)) md) :
    TG Try.prog 2 Try.f9.ntmps cdFl (startSt [askV nF nM lF cF lM cM q0 q1 q2 q3] (rH [rwI nF fs, rwI nM ms]) 2) (RetG Try.prog 2 Try.f9 fun u _ _ => u = .bool true) := by
  obtain ⟨cl, k, r, d, v, l, gs⟩ := md
  have hv : vB7 cl k r d v l gs = true := md_valid hmd
  have hf5 := fa5_ok hmd
  have hnd := made_nd hmd q0 q1 q2 q3
  obtain ⟨ar1, ar2⟩ := made_area hmd q0 q1 q2 q3
  have b0 := smX_bd q0
  have b1 := smX_bd q1
  have b2 := smW_bd q0 q2
  have b3 := smW_bd q1 q3
  refine TG_isN1 3 (XL ⟨cl, k, r, d, v, l, gs⟩) mo (by kernel_rfl) (lo_1 nF nM fs ms cl k r d v l gs lF cF lM cM q0 q1 q2 q3) (by
    simp only [List.mem_cons, List.not_mem_nil, or_false]
    rintro p (rfl | rfl)
    · exact hM
    · exact hmd) ?_
  generalize hnde : ndM true (md7 cl k r d v l gs) q0 q1 q2 q3 = nd at hnd ar1 ar2 ⊢
  have hnde' : areaQ true k r v (smX q0) (smX q1) (smW q0 q2) (smW q1 q3) (-1) = nd := hnde
  generalize smX q0 = a at hnd hnde' b0 b2 ⊢
  generalize smX q1 = b at hnd hnde' b1 b3 ⊢
  generalize smW q0 q2 = c at hnd hnde' b2 ⊢
  generalize smW q1 q3 = e at hnd hnde' b3 ⊢
  clear hnde
  have m0 : m20 a := ⟨by omega, by omega⟩
  have m1 : m20 b := ⟨by omega, by omega⟩
  have m2 : m20 c := ⟨by omega, by omega⟩
  have m3 : m20 e := ⟨by omega, by omega⟩
  have hac : a < c := by omega
  have hbe : b < e := by omega
  have hf1 : ∀ {x : Bool}, x = true → pBq (!x) false := fun h => pBq_f (by rw [h]; rfl)
  cases hl : localB (vB7 cl k r d v l gs) k r v with
  | false =>
    refine TG_ret (XL ⟨cl, k, r, d, v, l, gs⟩) mo _ (by kernel_rfl) (lo_2a nF nM fs ms cl k r d v l gs _ _ _ _ _ _ _ _ _ _) fun g hg _ => ?_
    rw [List.mem_singleton] at hg; subst hg
    refine ⟨fun p hp => ?_, _, _, _, rfl, rfl⟩
    rcases List.mem_append.1 hp with hp | hp
    · exact hf5 p hp
    · rw [List.mem_singleton] at hp; subst hp; exact pBq_t (by rw [hl]; rfl)
  | true =>
    obtain ⟨_, hr0, hk⟩ := localB_iff hl
    subst hr0
    have hare : areaQ true k 0 v a b c e (-1) = (a, b, c, e) := area_loc hk hac hbe m0 m1 m2 m3 (-1) (.inr rfl)
    have hare1 : areaQ true k 0 v a b c e 1 = (a, b, c, e) := area_loc hk hac hbe m0 m1 m2 m3 1 (.inl rfl)
    obtain rfl : nd = (a, b, c, e) := hnde'.symm.trans hare
    have hN : (arQ (a, b, c, e)).toNat = rcN a b c e := areI_toNat m0 m1 m2 m3 hac hbe
    have hM : rcN a b c e ≤ 196 := by rw [← hN]; omega
    rw [hN]
    generalize hpx : outR (imgQ (cutN (ln nM lM)) (rw' nM ms)) (rcN a b c e) = px
    have hlen : px.length = rcN a b c e * 4 := by rw [← hpx]; exact outR_len _ _
    clear hpx hnde' hN ar1 ar2
    have adm0 : admB a b c e = true := by
      unfold admB
      rw [within_iff'.2 m0, within_iff'.2 m1, within_iff'.2 m2, within_iff'.2 m3]; rfl
    have herr : ∀ {x0 y0 x1 y1 : Int} {n : Nat}, m20 x0 → m20 y0 → m20 x1 → m20 y1 → x0 < x1 → y0 < y1 → n = rcN x0 y0 x1 y1 → n ≤ 262144 → err7 cl k 0 d v l gs x0 y0 x1 y1 x0 y0 x1 y1 n = 0 := by
      intro x0 y0 x1 y1 n g0 g1 g2 g3 gx gy hn hn2
      have ad : admB x0 y0 x1 y1 = true := by
        unfold admB
        rw [within_iff'.2 g0, within_iff'.2 g1, within_iff'.2 g2, within_iff'.2 g3]; rfl
      have hq := area_loc (k := k) (v := v) hk gx gy g0 g1 g2 g3 (-1) (.inr rfl)
      have hn3 : (n : Int) = areI x0 y0 x1 y1 := by rw [hn]; exact rcN_eq g0 g1 g2 g3 gx gy
      exact aE_of hv ad hn3 ad (by rw [← hn3]; omega) (by rw [hq]; exact insB_self (x0, y0, x1, y1))
    refine TG_isN1 3 (XL ⟨cl, k, 0, d, v, l, gs⟩) mo (by kernel_rfl) (lo_2 nF nM fs ms cl k 0 d v l gs a b c e a b c e (rcN a b c e) px) (fun p hp => ?_) ?_
    · have e1 : pBq (!rcE (areaQ (vB7 cl k 0 d v l gs) k 0 v a b c e (-1)) a b c e) false := hf1 (by rw [hv, hare]; exact rcE_self ..)
      have e2 : pBq (!rcE (areaQ (vB7 cl k 0 d v l gs) k 0 v a b c e 1) a b c e) false := hf1 (by rw [hv, hare1]; exact rcE_self ..)
      rcases List.mem_append.1 hp with hp | hp
      · exact hf5 p hp
      rcases List.mem_cons.1 hp with rfl | hp
      · exact hf1 hl
      rcases List.mem_append.1 hp with hp | hp
      · exact hf5 p hp
      rcases List.mem_append.1 hp with hp | hp
      · exact asA_ok ⟨cl, k, 0, d, v, l, gs⟩ (by omega) (herr m0 m1 m2 m3 hac hbe rfl (by omega)) (emptyB_lt hac hbe) p hp
      rcases List.mem_append.1 hp with hp | hp
      · exact hf5 p hp
      rcases List.mem_cons.1 hp with rfl | hp
      · exact e1
      rcases List.mem_append.1 hp with hp | hp
      · exact hf5 p hp
      · simp only [List.mem_cons, List.not_mem_nil, or_false] at hp
        rcases hp with rfl | rfl
        · exact e2
        · exact pBq_f (bne_eq_false_iff_eq.2 rfl)
    generalize hox : out7 cl k 0 d v l gs a b c a b c e px = ox
    have hox' : ox = outR (apP (kdOf k) false false a b c a b c k 0 d v (glC cl l) (grK cl gs) (grC cl gs) px) (rcN a b c e) := hox.symm
    have hol : ox.length = rcN a b c e * 4 := by rw [hox']; exact outR_len _ _
    refine TG_seq' (by kernel_rfl) ?_
    refine TG_isSeq (XL ⟨cl, k, 0, d, v, l, gs⟩) mo anyR (by kernel_rfl) (by kernel_rfl) (lo_3 nF nM fs ms cl k 0 d v l gs a b c e a b c e _ px _ ox) fun g hg _ => ?_
    rw [List.mem_singleton] at hg; subst hg
    refine ⟨by simp, fun s' hs' => ?_⟩
    refine TG_block (i := 0) (by kernel_rfl) (TG_mono (Q1 := fun y s2 => y = .exit 0 ∧ ∃ i, normG 2 [3, 4, 5, 6, 7, 9] s2 = some (sLo nF nM fs ms cl k 0 d v l gs a b c e a b c e (rcN a b c e) px (rcN a b c e) ox i)) ?_ ?_)
    · refine TG_loop_inv (fun k' s => ∃ i, k' = rcN a b c e - i ∧ i ≤ rcN a b c e ∧ ∃ L, normG 2 L s = some (sLo nF nM fs ms cl k 0 d v l gs a b c e a b c e (rcN a b c e) px (rcN a b c e) ox i)) (by kernel_rfl) ?_ (rcN a b c e) ⟨0, rfl, Nat.zero_le _, _, hs'⟩
      rintro k' s ⟨i, hk', hi, L, hs⟩
      refine TG_norm hs ?_
      refine TG_is (XL ⟨cl, k, 0, d, v, l, gs⟩) mo anyR (by kernel_rfl) (lo_4 nF nM fs ms cl k 0 d v l gs a b c e a b c e _ px _ ox i) fun g hg hc => ?_
      simp only [List.mem_cons, List.not_mem_nil, or_false] at hg
      have hI : Int.ofNat i = (i : Int) := rfl
      rcases hg with rfl | rfl
      · have hlt : i < rcN a b c e := by
          have := of_decide_eq_true (hc _ (List.mem_singleton.2 rfl))
          rw [hI] at this; omega
        have hA : loA i = (i : Int) + 1 := by unfold loA; rw [hI]; exact w64_id (by omega) (by omega)
        have hW : loW i = 1 := by
          unfold loW; rw [hA, hI]
          omega
        have hP : ∀ p ∈ loP i (rcN a b c e), p := by
          have e2 : Int.ofNat (rcN a b c e) = (rcN a b c e : Int) := rfl
          have e3 : Int.ofNat (loA i).toNat = ((loA i).toNat : Int) := rfl
          simp only [loP, List.mem_cons, List.not_mem_nil, or_false]
          rintro p (rfl | rfl)
          · rw [hA, e2]; omega
          · rw [e3, hA, hI]; omega
        have n0 : m20 (Int.ofNat i) := ⟨by rw [hI]; omega, by rw [hI]; omega⟩
        have n1 : m20 0 := ⟨by omega, by omega⟩
        have n2 : m20 (loA i) := ⟨by rw [hA]; omega, by rw [hA]; omega⟩
        have n3 : m20 1 := ⟨by omega, by omega⟩
        have nx : Int.ofNat i < loA i := by rw [hA, hI]; omega
        have hr1 : rcN (Int.ofNat i) 0 (loA i) 1 = 1 := by
          unfold rcN; rw [hA, hI]
          have : ((i : Int) + 1 - i).toNat = 1 := by omega
          rw [this]; rfl
        have hlo : loO cl k 0 d v l gs px i = outR (apP (kdOf k) false false (Int.ofNat i) 0 (loA i) (Int.ofNat i) 0 (loA i) k 0 d v (glC cl l) (grK cl gs) (grC cl gs) (px.drop (0 + (Int.ofNat i).toNat * 4))) 1 := by
          have e1 : loO cl k 0 d v l gs px i = outR (apP (kdOf k) false false (Int.ofNat i) 0 (loA i) (Int.ofNat i) 0 (loA i) k 0 d v (glC cl l) (grK cl gs) (grC cl gs) (px.drop (0 + (Int.ofNat i).toNat * 4))) (rcN (Int.ofNat i) 0 (loA i) 1) := rfl
          rw [e1, hr1]
        have hpix : apP (kdOf k) false false (Int.ofNat i) 0 (loA i) (Int.ofNat i) 0 (loA i) k 0 d v (glC cl l) (grK cl gs) (grC cl gs) (px.drop (0 + (Int.ofNat i).toNat * 4)) 0 = apP (kdOf k) false false a b c a b c k 0 d v (glC cl l) (grK cl gs) (grC cl gs) px i := by
          obtain ⟨p1, p2, p3⟩ := idx_ab m0 m1 m2 m3 hlt
          obtain ⟨r1, r2, r3⟩ := idx_ab n0 n1 n2 n3 (i := 0) (by rw [hr1]; omega)
          have q1 : Int.ofNat (i % (c - a).toNat) = ((i % (c - a).toNat : Nat) : Int) := rfl
          have q2 : Int.ofNat (i / (c - a).toNat) = ((i / (c - a).toNat : Nat) : Int) := rfl
          have z1 : (0 : Int) ≤ Int.ofNat (i % (c - a).toNat) := Int.natCast_nonneg _
          have z2 : (0 : Int) ≤ Int.ofNat (i / (c - a).toNat) := Int.natCast_nonneg _
          have z3 : (0 : Int) ≤ Int.ofNat (0 % (loA i - Int.ofNat i).toNat) := Int.natCast_nonneg _
          have z4 : (0 : Int) ≤ Int.ofNat (0 / (loA i - 0).toNat) := Int.natCast_nonneg _
          have z5 : (0 : Int) ≤ Int.ofNat (0 / (loA i - Int.ofNat i).toNat) := Int.natCast_nonneg _
          unfold apP apQ
          refine congrArg clQ (kdQ_loc hk ?_ ?_ ?_ ?_ ?_)
          · obtain ⟨g1, g2⟩ := n0; obtain ⟨g3, g4⟩ := n2; exact ⟨by omega, by omega⟩
          · exact ⟨by omega, by omega⟩
          · exact ⟨by omega, by omega⟩
          · exact ⟨by omega, by omega⟩
          · rw [p1, r1]; exact drop_pix px i
        refine ⟨fun p hp => ?_, fun s' hs' => ⟨rcN a b c e - (i + 1), by omega, i + 1, rfl, by omega, _, hs'⟩⟩
        unfold loC at hp
        rcases List.mem_append.1 hp with hp | hp
        · exact hP p hp
        rcases List.mem_append.1 hp with hp | hp
        · exact hP p hp
        rcases List.mem_append.1 hp with hp | hp
        · exact hP p hp
        rcases List.mem_append.1 hp with hp | hp
        · exact hf5 p hp
        rcases List.mem_append.1 hp with hp | hp
        · refine asA_ok ⟨cl, k, 0, d, v, l, gs⟩ ?_ (herr n0 n1 n2 n3 nx (by omega) (by rw [hW, hr1]) (by rw [hW]; omega)) (emptyB_lt nx (by omega)) p hp
          have e0 : (Int.ofNat i).toNat = i := rfl
          rw [hW, List.length_drop, e0]; omega
        · have e0 : (Int.ofNat i).toNat = i := rfl
          simp only [List.mem_cons, List.not_mem_nil, or_false] at hp
          rcases hp with rfl | rfl | rfl | rfl | rfl | rfl | rfl
          · exact pBq_f (bne_eq_false_iff_eq.2 (by rw [hr1]; rfl))
          · rw [hr1]; omega
          · rw [hlo, outR_len]; omega
          · rw [hI]; omega
          · rw [hol, e0]; omega
          · refine hf1 ?_
            rw [hlo, hox', e0]
            exact px4B_of (i := 0) (j := i) (by omega) hlt hpix
          · exact upN (by omega)
      · exact ⟨by simp, fun s' hs' => ⟨rfl, i, hs'⟩⟩
    · rintro y s2 ⟨rfl, i, hs2⟩
      rw [outOf_exit]
      simp only [andThen]
      refine TG_norm hs2 ?_
      obtain ⟨h', n', hr'⟩ := lo_5 nF nM fs ms cl k 0 d v l gs a b c e a b c e (rcN a b c e) px (rcN a b c e) ox i
      refine TG_ret (XL ⟨cl, k, 0, d, v, l, gs⟩) mo _ (by kernel_rfl) hr' fun g hg _ => ?_
      rw [List.mem_singleton] at hg; subst hg
      exact ⟨by simp, _, _, _, rfl, rfl⟩
end
end Go.Proofs.Ytadejpmecljjpaa
