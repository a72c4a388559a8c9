/- FilterClear: the whole function. No conditions. -/
import Derived.Test.YtadejpmecljjpaaFlClA
set_option linter.unusedVariables false
set_option linter.unusedSimpArgs false
set_option linter.unusedSectionVars false
namespace Go.Proofs.Ytadejpmecljjpaa
open Go Go.Eng
section
variable (nF nM : Bool) (fs ms : List Int) (md : Md) (lF cF lM cM : Nat) (q0 q1 q2 q3 b0 b1 b2 b3 : Int)
set_option maxRecDepth 100000 in
theorem tgFc (hM : ln nM lM ≤ (rw' nM ms).length) (hmd : MadeIs (rw' nF fs) (min 60 (ln nF lF)) md) :
    TG Try.prog 2 Try.f8.ntmps cdFc (startSt [askV nF nM lF cF lM cM q0 q1 q2 q3, .agg [.int .u8 b0, .int .u8 b1, .int .u8 b2, .int .u8 b3]] (rH [rwI nF fs, rwI nM ms]) 2) (RetG Try.prog 2 Try.f8 fun u _ _ => u = .bool true) := by
  obtain ⟨cl, k, r, d, v, l, gs⟩ := md
  have hv : vBC cl k r d v l gs = true := md_valid hmd
  have hf5 := fa5_ok hmd
  have s0 := smX_bd q0
  have s1 := smX_bd q1
  have s2 := smW_bd q0 q2
  have s3 := smW_bd q1 q3
  obtain ⟨p0, p1, p2, p3, hp0, hp1, hp2, hp3, hform, _, hplace⟩ := area_form2 hv
  have hnd : ndM true (mdC cl k r d v l gs) q0 q1 q2 q3 = (smX q0 + p0, smX q1 + p1, smW q0 q2 + p2, smW q1 q3 + p3) := hform _ _ _ _ (by omega) (by omega) (by omega) (by omega) (by omega) (by omega)
  refine TG_isN1 4 (XL ⟨cl, k, r, d, v, l, gs⟩) mo (by kernel_rfl) (cl_1 nF nM fs ms cl k r d v l gs b0 b1 b2 lF cF lM cM q0 q1 q2 q3 b3) (by
    simp only [List.mem_cons, List.not_mem_nil, or_false]
    rintro p (rfl | rfl)
    · exact hM
    · exact hmd) ?_
  rw [hnd]
  clear hnd
  generalize smX q0 = a at s0 s2 ⊢
  generalize smX q1 = b at s1 s3 ⊢
  generalize smW q0 q2 = c at s2 ⊢
  generalize smW q1 q3 = e at s3 ⊢
  have m0 : m20 a := ⟨by omega, by omega⟩
  have m1 : m20 b := ⟨by omega, by omega⟩
  have m2 : m20 c := ⟨by omega, by omega⟩
  have m3 : m20 e := ⟨by omega, by omega⟩
  have x0 : m20 (a + p0) := ⟨by omega, by omega⟩
  have x1 : m20 (b + p1) := ⟨by omega, by omega⟩
  have x2 : m20 (c + p2) := ⟨by omega, by omega⟩
  have x3 : m20 (e + p3) := ⟨by omega, by omega⟩
  have hN : (arQ (a + p0, b + p1, c + p2, e + p3)).toNat = rcN (a + p0) (b + p1) (c + p2) (e + p3) := areI_toNat x0 x1 x2 x3 (show a + p0 < c + p2 by omega) (show b + p1 < e + p3 by omega)
  have hM8 : rcN a b c e ≤ 400 := rcN_20 (by omega) (by omega)
  have hM1 : 0 < rcN a b c e := rcN_pos (emptyB_lt (by omega) (by omega))
  have hN8 : rcN (a + p0) (b + p1) (c + p2) (e + p3) ≤ 400 := rcN_20 (by omega) (by omega)
  rw [hN]
  clear hN
  show TG Try.prog 2 Try.f8.ntmps (tailN 4 cdFc) (sC0 nF nM fs ms cl k r d v l gs a b c e (a + p0) (b + p1) (c + p2) (e + p3) (rcN (a + p0) (b + p1) (c + p2) (e + p3)) (outR (imgQ (cutN (ln nM lM)) (rw' nM ms)) (rcN (a + p0) (b + p1) (c + p2) (e + p3))) b0 b1 b2) _
  generalize hpx : outR (imgQ (cutN (ln nM lM)) (rw' nM ms)) (rcN (a + p0) (b + p1) (c + p2) (e + p3)) = px
  have hlen : px.length = rcN (a + p0) (b + p1) (c + p2) (e + p3) * 4 := by rw [← hpx]; exact outR_len _ _
  clear hpx
  have hpl := fun (i : Nat) (h : i < rcN a b c e) (j : Nat) (hj : j < sq r) => ap_place hplace m0 m1 m2 m3 h j hj
  have herr : errC cl k r d v l gs (a + p0) (b + p1) (c + p2) (e + p3) a b c e (rcN (a + p0) (b + p1) (c + p2) (e + p3)) = 0 := errC_ok hv (hform a b c e (by omega) (by omega) (by omega) (by omega) (by omega) (by omega)) x0 x1 x2 x3 m0 m1 m2 m3 (by omega) (by omega) (by omega) (by omega) rfl (by omega) (by omega) (by omega) (by omega) (by omega)
  have hem : emptyB a b c e = false := emptyB_lt (by omega) (by omega)
  have hrN : rcN (a + p0) (b + p1) (c + p2) (e + p3) = (e + p3 - (b + p1)).toNat * (c + p2 - (a + p0)).toNat := rfl
  have hin : ∀ x' y' : Int, a + p0 ≤ x' → x' < c + p2 → b + p1 ≤ y' → y' < e + p3 → ∃ t, idxE (a + p0) (b + p1) (c + p2) x' y' = Int.ofNat t ∧ t < rcN (a + p0) (b + p1) (c + p2) (e + p3) := fun x' y' g1 g2 g3 g4 => ⟨_, idx_nat x0 x1 x2 x3 g1 g2 g3 g4⟩
  generalize hNN : rcN (a + p0) (b + p1) (c + p2) (e + p3) = N at hlen herr hN8 hin ⊢
  clear hrN
  have h2 := cl_2 nF nM fs ms cl k r d v l gs a b c e (a + p0) (b + p1) (c + p2) (e + p3) N px b0 b1 b2
  rw [wN_eq (by omega)] at h2
  refine TG_isN1 2 (XL ⟨cl, k, r, d, v, l, gs⟩) mo (by kernel_rfl) h2 (fun p hp => by
    simp only [List.mem_cons, List.not_mem_nil, or_false, or_self] at hp
    subst hp; exact wP_ok (by omega)) ?_
  show TG Try.prog 2 Try.f8.ntmps (tailN 6 cdFc) _ _
  refine TG_seq' (by kernel_rfl) ?_
  refine TG_isSeq (XL ⟨cl, k, r, d, v, l, gs⟩) mo anyR (by kernel_rfl) (by kernel_rfl) (cl_3 nF nM fs ms cl k r d v l gs a b c e (a + p0) (b + p1) (c + p2) (e + p3) N px b0 b1 b2 N (repI z4 N) (repI z4 N)) fun g hg _ => ?_
  rw [List.mem_singleton] at hg; subst hg
  refine ⟨by simp, fun s' hs' => ?_⟩
  refine TG_block (i := 0) (by kernel_rfl) (TG_mono (Q1 := fun y s2 => y = .exit 0 ∧ ∃ L, normG 2 L s2 = some (sC2 nF nM fs ms cl k r d v l gs a b c e (a + p0) (b + p1) (c + p2) (e + p3) N px b0 b1 b2 N (repI z4 N) (frow N (b0, b1, b2, 255) N) N)) ?_ ?_)
  · refine TG_loop_inv (fun k' s => ∃ i, k' = N - i ∧ i ≤ N ∧ ∃ L, normG 2 L s = some (sC2 nF nM fs ms cl k r d v l gs a b c e (a + p0) (b + p1) (c + p2) (e + p3) N px b0 b1 b2 N (repI z4 N) (frow N (b0, b1, b2, 255) i) i)) (by kernel_rfl) ?_ N ⟨0, rfl, Nat.zero_le _, _, hs'⟩
    rintro k' s ⟨i, hk', hi, L, hs⟩
    refine TG_norm hs ?_
    refine TG_is (XL ⟨cl, k, r, d, v, l, gs⟩) mo anyR (by kernel_rfl) (cl_4 nF nM fs ms cl k r d v l gs a b c e (a + p0) (b + p1) (c + p2) (e + p3) N px b0 b1 b2 N (repI z4 N) (frow N (b0, b1, b2, 255) i) i) fun g hg hc => ?_
    simp only [List.mem_cons, List.not_mem_nil, or_false] at hg
    have hI : Int.ofNat i = (i : Int) := rfl
    have e0 : (Int.ofNat i).toNat = i := rfl
    rcases hg with rfl | rfl
    · have hlt : i < N := by
        have := of_decide_eq_true (hc _ (List.mem_singleton.2 rfl))
        rw [hI] at this; omega
      refine ⟨fun p hp => ?_, fun s' hs' => ⟨N - (i + 1), by omega, i + 1, rfl, by omega, _, hs'⟩⟩
      simp only [List.mem_cons, List.not_mem_nil, or_false] at hp
      rcases hp with rfl | rfl | rfl
      · rw [hI]; omega
      · rw [frow_len N (b0, b1, b2, 255) i (by omega), e0]; omega
      · exact upN (by omega)
    · have hge : i = N := by
        have := of_decide_eq_false (hc _ (List.mem_singleton.2 rfl))
        rw [hI] at this; omega
      refine ⟨by simp, fun s' hs' => ⟨rfl, [5, 6, 7, 8, 9, 10, 3, 11], ?_⟩⟩
      rw [hge] at hs'; exact hs'
  rintro y s2 ⟨rfl, L, hs2⟩
  rw [outOf_exit]
  simp only [andThen]
  refine TG_norm hs2 ?_
  have hfl : (frow N (b0, b1, b2, 255) N).length = N * 4 := frow_len N _ N (Nat.le_refl _)
  have hfp := frow_pix N (b0, b1, b2, 255) N (Nat.le_refl _)
  generalize frow N (b0, b1, b2, 255) N = fu at hfl hfp ⊢
  have hzl := rep_len N
  have hzp : ∀ t, pixQ (repI z4 N) t = (0, 0, 0, 0) := rep_pix N
  generalize repI z4 N = ze at hzl hzp ⊢
  have hasx : ∀ (w : List Int), w.length = N * 4 → ∀ p ∈ asC cl k r d v l gs (a + p0) (b + p1) (c + p2) (e + p3) a b c e N w, p := fun w hw => asC_ok (px := w) (md := ⟨cl, k, r, d, v, l, gs⟩) (by omega) herr hem
  refine TG_isN1 4 (XL ⟨cl, k, r, d, v, l, gs⟩) mo (by kernel_rfl) (cl_5 nF nM fs ms cl k r d v l gs a b c e (a + p0) (b + p1) (c + p2) (e + p3) N px b0 b1 b2 N ze fu N) (fun p hp => ?_) ?_
  · unfold cl5 at hp
    rcases List.mem_append.1 hp with hp | hp
    · exact hf5 p hp
    rcases List.mem_append.1 hp with hp | hp
    · exact hasx _ hlen p hp
    rcases List.mem_append.1 hp with hp | hp
    · exact hf5 p hp
    rcases List.mem_append.1 hp with hp | hp
    · exact hasx _ hzl p hp
    rcases List.mem_append.1 hp with hp | hp
    · exact hf5 p hp
    rcases List.mem_append.1 hp with hp | hp
    · exact hasx _ hfl p hp
    rcases List.mem_append.1 hp with hp | hp
    · simp only [List.mem_cons, List.not_mem_nil, or_false] at hp
      rcases hp with rfl | rfl | rfl | rfl | rfl
      · exact pBq_f rfl
      · exact pBq_f rfl
      · exact pBq_f rfl
      · exact pBq_f (bne_eq_false_iff_eq.2 rfl)
      · exact pBq_f (bne_eq_false_iff_eq.2 rfl)
    rcases List.mem_append.1 hp with hp | hp
    · exact hf5 p hp
    · rw [List.mem_singleton] at hp; subst hp
      exact pBq_f (by rw [hv]; rfl)
  -- the pixels of what is made
  have hox : outC cl k r d v l gs (a + p0) (b + p1) (c + p2) a b c e px = outR (apP (kdOf k) false false (a + p0) (b + p1) (c + p2) a b c k r d v (glC cl l) (grK cl gs) (grC cl gs) px) (rcN a b c e) := rfl
  have hoy : outC cl k r d v l gs (a + p0) (b + p1) (c + p2) a b c e ze = outR (apP (kdOf k) false false (a + p0) (b + p1) (c + p2) a b c k r d v (glC cl l) (grK cl gs) (grC cl gs) ze) (rcN a b c e) := rfl
  have hoz : outC cl k r d v l gs (a + p0) (b + p1) (c + p2) a b c e fu = outR (apP (kdOf k) false false (a + p0) (b + p1) (c + p2) a b c k r d v (glC cl l) (grK cl gs) (grC cl gs) fu) (rcN a b c e) := rfl
  have hpx : ∀ i, apP (kdOf k) false false (a + p0) (b + p1) (c + p2) a b c k r d v (glC cl l) (grK cl gs) (grC cl gs) px i = clQ (apP (kdOf k) false false (a + p0) (b + p1) (c + p2) a b c k r d v (glC cl l) (grK cl gs) (grC cl gs) px i) := fun i => by
    rw [apP_eq, clQ_id]
  have hpy : ∀ i, apP (kdOf k) false false (a + p0) (b + p1) (c + p2) a b c k r d v (glC cl l) (grK cl gs) (grC cl gs) ze i = (0, 0, 0, 0) := fun i => by
    rw [apP_eq]
    have : (fun m => pixQ ze (wix (a + p0) (b + p1) (c + p2) r v (a + Int.ofNat (i % (c - a).toNat)) (b + Int.ofNat (i / (c - a).toNat)) (kdOf k) m)) = fun _ => (0, 0, 0, 0) := funext fun m => hzp _
    rw [this]
    refine kdF_zero k r d v _ _ _ _ fun hk => ?_
    have hk1 := kd_cv hk
    subst hk1
    exact valid_d hv
  have hpz : ∀ i, i < rcN a b c e → apP (kdOf k) false false (a + p0) (b + p1) (c + p2) a b c k r d v (glC cl l) (grK cl gs) (grC cl gs) fu i = clQ (kdF k r d v (grK cl gs) (glC cl l) (grC cl gs) (kdOf k) fun _ => (b0, b1, b2, 255)) := fun i hi => by
    rw [apP_eq]
    refine congrArg clQ (kdF_congr fun j hj => ?_)
    obtain ⟨x', y', g1, g2, g3, g4, _, g5⟩ := hpl i hi j hj
    obtain ⟨t, ht1, ht2⟩ := hin x' y' g1 g2 g3 g4
    rw [g5, ht1]
    exact hfp t ht2
  rw [hox, hoy, hoz]
  generalize apP (kdOf k) false false (a + p0) (b + p1) (c + p2) a b c k r d v (glC cl l) (grK cl gs) (grC cl gs) px = P1 at hpx ⊢
  generalize apP (kdOf k) false false (a + p0) (b + p1) (c + p2) a b c k r d v (glC cl l) (grK cl gs) (grC cl gs) ze = P2 at hpy ⊢
  generalize apP (kdOf k) false false (a + p0) (b + p1) (c + p2) a b c k r d v (glC cl l) (grK cl gs) (grC cl gs) fu = P3 at hpz ⊢
  generalize rcN a b c e = M at *
  have l1 : (outR P1 M).length = M * 4 := outR_len _ _
  have l2 : (outR P2 M).length = M * 4 := outR_len _ _
  have l3 : (outR P3 M).length = M * 4 := outR_len _ _
  show TG Try.prog 2 Try.f8.ntmps (tailN 4 tlFc) _ _
  refine TG_seq' (by kernel_rfl) ?_
  refine TG_isSeq (XL ⟨cl, k, r, d, v, l, gs⟩) mo anyR (by kernel_rfl) (by kernel_rfl) (cl_6 nF nM fs ms cl k r d v l gs a b c e M (outR P1 M) (outR P2 M) (outR P3 M)) fun g hg _ => ?_
  rw [List.mem_singleton] at hg; subst hg
  refine ⟨by simp, fun s' hs' => ?_⟩
  refine TG_block (i := 2) (by kernel_rfl) (TG_mono (Q1 := fun y s2 => y = .exit 2 ∧ ∃ i L, normG 2 L s2 = some (sC4 nF nM fs ms a b c e M (outR P1 M) (outR P2 M) (outR P3 M) i)) ?_ ?_)
  · refine TG_loop_inv (fun k' s => ∃ i, k' = M - i ∧ i ≤ M ∧ ∃ L, normG 2 L s = some (sC4 nF nM fs ms a b c e M (outR P1 M) (outR P2 M) (outR P3 M) i)) (by kernel_rfl) ?_ M ⟨0, rfl, Nat.zero_le _, _, hs'⟩
    rintro k' s ⟨i, hk', hi, L, hs⟩
    refine TG_norm hs ?_
    refine TG_is (XL ⟨cl, k, r, d, v, l, gs⟩) mo anyR (by kernel_rfl) (cl_7 nF nM fs ms cl k r d v l gs a b c e M (outR P1 M) (outR P2 M) (outR P3 M) i) fun g hg hc => ?_
    simp only [List.mem_cons, List.not_mem_nil, or_false] at hg
    have hI : Int.ofNat i = (i : Int) := rfl
    have e0 : (Int.ofNat i).toNat = i := rfl
    rcases hg with rfl | rfl
    · have hlt : i < M := by
        have := of_decide_eq_true (hc _ (List.mem_singleton.2 rfl))
        rw [hI] at this; omega
      refine ⟨fun p hp => ?_, fun s' hs' => ⟨M - (i + 1), by omega, i + 1, rfl, by omega, _, hs'⟩⟩
      have hin : 0 ≤ Int.ofNat i ∧ Int.ofNat i < (M : Int) := by rw [hI]; omega
      have hf1 : ∀ {x : Bool}, x = true → pBq (!x) false := fun h => pBq_f (by rw [h]; rfl)
      simp only [cl7, List.mem_cons, List.not_mem_nil, or_false] at hp
      rcases hp with rfl | rfl | rfl | rfl | rfl | rfl | rfl | rfl | rfl | rfl | rfl | rfl | rfl | rfl | rfl
      · exact hin
      · rw [l2, e0]; omega
      · refine hf1 ?_
        rw [g4_out P2 hlt, hpy]; exact q4E_self _
      · exact hin
      · rw [l3, e0]; omega
      · omega
      · rw [l3]; omega
      · refine hf1 ?_
        rw [g4_out P3 hlt, g4_out P3 hM1, hpz i hlt, hpz 0 hM1]; exact q4E_self _
      · exact hin
      · rw [l1, e0]; omega
      · exact hin
      · rw [l1, e0]; omega
      · rw [l1, e0]; omega
      · refine hf1 ?_
        rw [g4_out P1 hlt, ← hpx i]; exact q4E_self _
      · exact upN (by omega)
    · exact ⟨by simp, fun s' hs' => ⟨rfl, i, _, hs'⟩⟩
  · rintro y s2 ⟨rfl, i, L, hs2⟩
    rw [outOf_exit]
    simp only [andThen]
    refine TG_norm hs2 ?_
    obtain ⟨h', n', hr'⟩ := cl_8 nF nM fs ms cl k r d v l gs a b c e M (outR P1 M) (outR P2 M) (outR P3 M) i
    refine TG_ret (XL ⟨cl, k, r, d, v, l, gs⟩) mo _ (by kernel_rfl) hr' fun g hg _ => ?_
    rw [List.mem_singleton] at hg; subst hg
    exact ⟨by simp, _, _, _, rfl, rfl⟩
end
end Go.Proofs.Ytadejpmecljjpaa
