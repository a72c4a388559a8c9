/- FilterLocality: the whole function. No conditions. -/
import Derived.Test.YtadejpmecljjpaaFlLyA
set_option linter.unusedVariables false
set_option linter.unusedSimpArgs false
set_option linter.unusedSectionVars false
namespace Go.Proofs.Ytadejpmecljjpaa
open Go Go.Eng
theorem pick_ok {N : Nat} (h0 : 0 < N) (h1 : N ≤ 1000000) (x : Int) : ∃ t : Nat, t < N ∧ (w64 (x.tmod N + N)).tmod N = Int.ofNat t := by
  have hN : (0 : Int) < N := by omega
  have e : x.tmod N = x - N * x.tdiv N := Int.tmod_def ..
  have b1 : x.tmod N < N := Int.tmod_lt_of_pos x hN
  have b2 : -(N : Int) < x.tmod N := Int.lt_tmod_of_pos x hN
  rw [w64_id (x := x.tmod N + N) (by omega) (by omega)]
  have b3 : 0 ≤ x.tmod N + N := by omega
  obtain ⟨u, hu⟩ := Int.eq_ofNat_of_zero_le b3
  rw [hu]
  exact ⟨u % N, Nat.mod_lt _ h0, rfl⟩
theorem atQ_ok {a b c e : Int} (m0 : m20 a) (m1 : m20 b) (m2 : m20 c) (m3 : m20 e) {i : Nat} (h : i < rcN a b c e) (hi : i < 1000000) :
    atP a c i = a + Int.ofNat (i % (c - a).toNat) ∧ atS a b c i = b + Int.ofNat (i / (c - a).toNat) ∧ w64 (atP a c i + 1) = a + Int.ofNat (i % (c - a).toNat) + 1 ∧ w64 (atS a b c i + 1) = b + Int.ofNat (i / (c - a).toNat) + 1 ∧
      w64 (c - a) ≠ 0 ∧ a ≤ a + Int.ofNat (i % (c - a).toNat) ∧ b ≤ b + Int.ofNat (i / (c - a).toNat) ∧ a + Int.ofNat (i % (c - a).toNat) < c ∧ b + Int.ofNat (i / (c - a).toNat) < e := by
  obtain ⟨_, q1, q2⟩ := idx_ab m0 m1 m2 m3 h
  have z1 : (0 : Int) ≤ Int.ofNat (i % (c - a).toNat) := Int.natCast_nonneg _
  have z2 : (0 : Int) ≤ Int.ofNat (i / (c - a).toNat) := Int.natCast_nonneg _
  obtain ⟨a1, a2⟩ := m0
  obtain ⟨b1, b2⟩ := m1
  obtain ⟨c1, c2⟩ := m2
  obtain ⟨e1, e2⟩ := m3
  have hW : w64 (c - a) = Int.ofNat (c - a).toNat := by
    rw [w64_id (x := c - a) (by omega) (by omega)]; exact (Int.toNat_of_nonneg (by omega)).symm
  have hq : i / (c - a).toNat ≤ i := Nat.div_le_self _ _
  have t1 : (Int.ofNat i).tmod (Int.ofNat (c - a).toNat) = Int.ofNat (i % (c - a).toNat) := rfl
  have t2 : (Int.ofNat i).tdiv (Int.ofNat (c - a).toNat) = Int.ofNat (i / (c - a).toNat) := rfl
  have z3 : Int.ofNat (i / (c - a).toNat) ≤ 1000000 := by
    have : Int.ofNat (i / (c - a).toNat) ≤ Int.ofNat i := Int.ofNat_le.2 hq
    have e0 : Int.ofNat i = (i : Int) := rfl
    omega
  have hx : atP a c i = a + Int.ofNat (i % (c - a).toNat) := by
    unfold atP
    rw [hW, t1]
    generalize Int.ofNat (i % (c - a).toNat) = u at z1 q1 ⊢
    exact w64_id (by omega) (by omega)
  have hy : atS a b c i = b + Int.ofNat (i / (c - a).toNat) := by
    unfold atS
    rw [hW, t2]
    generalize Int.ofNat (i / (c - a).toNat) = u at z2 z3 q2 ⊢
    rw [w64_id (x := u) (by omega) (by omega)]
    exact w64_id (by omega) (by omega)
  refine ⟨hx, hy, ?_, ?_, ?_, by omega, by omega, q1, q2⟩
  · rw [hx]
    generalize Int.ofNat (i % (c - a).toNat) = u at z1 q1 ⊢
    exact w64_id (by omega) (by omega)
  · rw [hy]
    generalize Int.ofNat (i / (c - a).toNat) = u at z2 z3 q2 ⊢
    exact w64_id (by omega) (by omega)
  · rw [hW]
    have : Int.ofNat (c - a).toNat = ((c - a).toNat : Int) := rfl
    omega
section
variable (nF nM nS : Bool) (fs ms ss : List Int) (md : Md) (lF cF lM cM lS cS : Nat) (q0 q1 q2 q3 b0 b1 : Int)
set_option maxRecDepth 100000 in
theorem tgLy (hM : ln nM lM ≤ (rw' nM ms).length) (hS : ln nS lS ≤ (rw' nS ss).length) (hcS : ln nS lS ≤ ln nS cS) (hmd : MadeIs (rw' nF fs) (min 60 (ln nF lF)) md) :
    TG Try.prog 3 Try.f7.ntmps cdLy (startSt [askV nF nM lF cF lM cM q0 q1 q2 q3, slS nS 2 lS cS, .agg [.int .i64 b0, .int .i64 b1]] (rH [rwI nF fs, rwI nM ms, rwI nS ss]) 3) (RetG Try.prog 3 Try.f7 fun u _ _ => u = .bool true) := by
  obtain ⟨cl, k, r, d, v, l, gs⟩ := md
  have hv : vBC cl k r d v l gs = true := md_valid hmd
  have hf5 := fa5_ok hmd
  have s0 := smX_bd q0
  have s1 := smX_bd q1
  have s2 := smW_bd q0 q2
  have s3 := smW_bd q1 q3
  obtain ⟨p0, p1, p2, p3, hp0, hp1, hp2, hp3, hform, hspread, hplace⟩ := area_form2 hv
  have hnd : ndM true (mdC cl k r d v l gs) q0 q1 q2 q3 = (smX q0 + p0, smX q1 + p1, smW q0 q2 + p2, smW q1 q3 + p3) := hform _ _ _ _ (by omega) (by omega) (by omega) (by omega) (by omega) (by omega)
  refine TG_isN1 3 (XY ⟨cl, k, r, d, v, l, gs⟩) mo (by kernel_rfl) (ly_1 nF nM nS fs ms ss cl k r d v l gs lS cS b0 b1 lF cF lM cM q0 q1 q2 q3) (by
    simp only [List.mem_cons, List.not_mem_nil, or_false]
    rintro p (rfl | rfl)
    · exact hM
    · exact hmd) ?_
  rw [hnd]
  clear hnd
  generalize smX q0 = a at s0 s2 ⊢
  generalize smX q1 = b at s1 s3 ⊢
  generalize smW q0 q2 = c at s2 ⊢
  generalize smW q1 q3 = e at s3 ⊢
  have m0 : m20 a := ⟨by omega, by omega⟩
  have m1 : m20 b := ⟨by omega, by omega⟩
  have m2 : m20 c := ⟨by omega, by omega⟩
  have m3 : m20 e := ⟨by omega, by omega⟩
  have x0 : m20 (a + p0) := ⟨by omega, by omega⟩
  have x1 : m20 (b + p1) := ⟨by omega, by omega⟩
  have x2 : m20 (c + p2) := ⟨by omega, by omega⟩
  have x3 : m20 (e + p3) := ⟨by omega, by omega⟩
  have hR : SmR (a + p0) (b + p1) (c + p2) (e + p3) := ⟨by omega, by omega, by omega, by omega, by omega, by omega⟩
  have hN : (arQ (a + p0, b + p1, c + p2, e + p3)).toNat = rcN (a + p0) (b + p1) (c + p2) (e + p3) := areI_toNat x0 x1 x2 x3 (show a + p0 < c + p2 by omega) (show b + p1 < e + p3 by omega)
  have hM8 : rcN a b c e ≤ 400 := rcN_20 (by omega) (by omega)
  have hN8 : rcN (a + p0) (b + p1) (c + p2) (e + p3) ≤ 400 := rcN_20 (by omega) (by omega)
  have hN1 : 0 < rcN (a + p0) (b + p1) (c + p2) (e + p3) := rcN_pos (emptyB_lt (by omega) (by omega))
  have hG8 : rcN (a + p0 - 2) (b + p1 - 2) (c + p2 + 2) (e + p3 + 2) ≤ 400 := rcN_20 (by omega) (by omega)
  rw [hN]
  clear hN
  show TG Try.prog 3 Try.f7.ntmps (tailN 3 cdLy) (sY0 nF nM nS fs ms ss cl k r d v l gs a b c e (a + p0) (b + p1) (c + p2) (e + p3) (rcN (a + p0) (b + p1) (c + p2) (e + p3)) (outR (imgQ (cutN (ln nM lM)) (rw' nM ms)) (rcN (a + p0) (b + p1) (c + p2) (e + p3))) lS cS b0 b1) _
  generalize hpx : outR (imgQ (cutN (ln nM lM)) (rw' nM ms)) (rcN (a + p0) (b + p1) (c + p2) (e + p3)) = px
  have hlen : px.length = rcN (a + p0) (b + p1) (c + p2) (e + p3) * 4 := by rw [← hpx]; exact outR_len _ _
  clear hpx
  have hpl := fun (i : Nat) (h : i < rcN a b c e) (j : Nat) (hj : j < sq r) => ap_place hplace m0 m1 m2 m3 h j hj
  have hem : emptyB a b c e = false := emptyB_lt (by omega) (by omega)
  have hab := hform a b c e (by omega) (by omega) (by omega) (by omega) (by omega) (by omega)
  have herr : errC cl k r d v l gs (a + p0) (b + p1) (c + p2) (e + p3) a b c e (rcN (a + p0) (b + p1) (c + p2) (e + p3)) = 0 := errC_ok hv hab x0 x1 x2 x3 m0 m1 m2 m3 (by omega) (by omega) (by omega) (by omega) rfl (by omega) (by omega) (by omega) (by omega) (by omega)
  have herrG : errC cl k r d v l gs (a + p0 - 2) (b + p1 - 2) (c + p2 + 2) (e + p3 + 2) a b c e (rcN (a + p0 - 2) (b + p1 - 2) (c + p2 + 2) (e + p3 + 2)) = 0 := errC_ok hv hab ⟨by omega, by omega⟩ ⟨by omega, by omega⟩ ⟨by omega, by omega⟩ ⟨by omega, by omega⟩ m0 m1 m2 m3 (by omega) (by omega) (by omega) (by omega) rfl (by omega) (by omega) (by omega) (by omega) (by omega)
  have hcut := cutN_eq (ln nS lS)
  -- what a part of the image shows of the wider one
  have hgl0 : (outR (imgQ (cutN (ln nS lS)) (rw' nS ss)) (rcN (a + p0 - 2) (b + p1 - 2) (c + p2 + 2) (e + p3 + 2))).length = rcN (a + p0 - 2) (b + p1 - 2) (c + p2 + 2) (e + p3 + 2) * 4 := outR_len _ _
  have hgl : (gxS (a + p0) (b + p1) (c + p2) (e + p3) px (ln nS lS) (rw' nS ss)).length = rcN (a + p0 - 2) (b + p1 - 2) (c + p2 + 2) (e + p3 + 2) * 4 := grow2_len hR hgl0 _ (Nat.le_refl _)
  have hgp : ∀ x y : Int, a + p0 ≤ x → x < c + p2 → b + p1 ≤ y → y < e + p3 → pixQ (gxS (a + p0) (b + p1) (c + p2) (e + p3) px (ln nS lS) (rw' nS ss)) (idxE (a + p0 - 2) (b + p1 - 2) (c + p2 + 2) x y) = pixQ px (idxE (a + p0) (b + p1) (c + p2) x y) := fun x y g1 g2 g3 g4 => grow2_eq hR hgl0 g1 g2 g3 g4
  refine TG_isN1 2 (XY ⟨cl, k, r, d, v, l, gs⟩) mo (by kernel_rfl) (ly_2 nF nM nS fs ms ss cl k r d v l gs a b c e (a + p0) (b + p1) (c + p2) (e + p3) (rcN (a + p0) (b + p1) (c + p2) (e + p3)) px lS cS b0 b1) (fun p hp => ?_) ?_
  · unfold ly2 at hp
    rcases List.mem_append.1 hp with hp | hp
    · exact hf5 p hp
    rcases List.mem_append.1 hp with hp | hp
    · exact asC_ok (md := ⟨cl, k, r, d, v, l, gs⟩) (by omega) herr hem p hp
    rcases List.mem_cons.1 hp with rfl | hp
    · unfold capI
      rw [hcut.2]
      have : Int.ofNat (min 200 (ln nS lS)) = ((min 200 (ln nS lS) : Nat) : Int) := rfl
      rw [this]
      have h3 : Int.ofNat (ln nS cS) = (ln nS cS : Int) := rfl
      rw [h3]; omega
    rcases List.mem_append.1 hp with hp | hp
    · simp only [grOk, List.mem_cons, List.not_mem_nil, or_false] at hp
      rcases hp with rfl | rfl | rfl | rfl | rfl | rfl
      · exact hR
      · trivial
      · omega
      · rw [hcut.1]; omega
      · rw [hcut.1]; omega
      · omega
    rcases List.mem_append.1 hp with hp | hp
    · exact hf5 p hp
    · exact asC_ok (md := ⟨cl, k, r, d, v, l, gs⟩) (by rw [hgl]; omega) herrG hem p hp
  generalize gxS (a + p0) (b + p1) (c + p2) (e + p3) px (ln nS lS) (rw' nS ss) = gx at hgl hgp ⊢
  have hrN : rcN (a + p0) (b + p1) (c + p2) (e + p3) = (e + p3 - (b + p1)).toNat * (c + p2 - (a + p0)).toNat := rfl
  have hin : ∀ x' y' : Int, a + p0 ≤ x' → x' < c + p2 → b + p1 ≤ y' → y' < e + p3 → idxE (a + p0) (b + p1) (c + p2) x' y' = Int.ofNat ((y' - (b + p1)).toNat * (c + p2 - (a + p0)).toNat + (x' - (a + p0)).toNat) ∧ (y' - (b + p1)).toNat * (c + p2 - (a + p0)).toNat + (x' - (a + p0)).toNat < rcN (a + p0) (b + p1) (c + p2) (e + p3) := fun x' y' g1 g2 g3 g4 => idx_nat x0 x1 x2 x3 g1 g2 g3 g4
  obtain ⟨t, ht, het⟩ := pick_ok hN1 (by omega) b0
  have hat := atQ_ok (i := t) x0 x1 x2 x3 ht (by omega)
  generalize hNN : rcN (a + p0) (b + p1) (c + p2) (e + p3) = N at *
  refine TG_isN1 1 (XY ⟨cl, k, r, d, v, l, gs⟩) mo (by kernel_rfl) (ly_3 nF nM nS fs ms ss cl k r d v l gs a b c e (a + p0) (b + p1) (c + p2) (e + p3) N px b0 b1 (rcN a b c e) _ _ t) (fun p hp => ?_) ?_
  · simp only [List.mem_cons, List.not_mem_nil, or_false] at hp
    rcases hp with rfl | rfl | rfl
    · omega
    · omega
    · rw [het]
  show TG Try.prog 3 Try.f7.ntmps (tailN 6 cdLy) _ _
  have et : Int.ofNat t = (t : Int) := rfl
  have e0 : (Int.ofNat t).toNat = t := rfl
  have htk : ([] ++ (px.drop 0).take (N * 4) : List Int) = px := by
    rw [List.drop_zero, List.nil_append, List.take_of_length_le (by omega)]
  have h4 := ly_4 nF nM nS fs ms ss cl k r d v l gs a b c e (a + p0) (b + p1) (c + p2) (e + p3) N px b0 b1 (rcN a b c e) (outC cl k r d v l gs (a + p0) (b + p1) (c + p2) a b c e px) (outC cl k r d v l gs (a + p0 - 2) (b + p1 - 2) (c + p2 + 2) a b c e gx) t
  rw [htk, Nat.zero_add N] at h4
  refine TG_isN1 2 (XY ⟨cl, k, r, d, v, l, gs⟩) mo (by kernel_rfl) h4 (fun p hp => ?_) ?_
  · simp only [List.mem_cons, List.not_mem_nil, or_false] at hp
    rcases hp with rfl | rfl | rfl | rfl | rfl | rfl
    · exact hN1
    · omega
    · exact hN1
    · unfold roomy; rw [decide_eq_true_iff]; omega
    · rw [et]; omega
    · rw [e0]; omega
  have hnl : (putI px (0 + t * 4) (q4l (clQ (madeQ b1)))).length = N * 4 := by
    rw [putI_len (by rw [hlen]; show 0 + t * 4 + 4 ≤ N * 4; omega), hlen]
  have hnp : ∀ i, i ≠ t → pixQ (putI px (0 + t * 4) (q4l (clQ (madeQ b1)))) (Int.ofNat i) = pixQ px (Int.ofNat i) := fun i hi => by
    rw [pixQ_put (by omega), if_neg hi]
  generalize putI px (0 + t * 4) (q4l (clQ (madeQ b1))) = nx at hnl hnp ⊢
  show TG Try.prog 3 Try.f7.ntmps (tailN 8 cdLy) _ _
  refine TG_isN1 1 (XY ⟨cl, k, r, d, v, l, gs⟩) mo (by kernel_rfl) (ly_5 nF nM nS fs ms ss cl k r d v l gs a b c e (a + p0) (b + p1) (c + p2) (e + p3) N px _ _ nx t) (fun p hp => ?_) ?_
  · rcases List.mem_append.1 hp with hp | hp
    · exact hf5 p hp
    · exact asC_ok (md := ⟨cl, k, r, d, v, l, gs⟩) (by omega) herr hem p hp
  -- the pixels of what is made
  have hox : outC cl k r d v l gs (a + p0) (b + p1) (c + p2) a b c e px = outR (apP (kdOf k) false false (a + p0) (b + p1) (c + p2) a b c k r d v (glC cl l) (grK cl gs) (grC cl gs) px) (rcN a b c e) := rfl
  have hoy : outC cl k r d v l gs (a + p0 - 2) (b + p1 - 2) (c + p2 + 2) a b c e gx = outR (apP (kdOf k) false false (a + p0 - 2) (b + p1 - 2) (c + p2 + 2) a b c k r d v (glC cl l) (grK cl gs) (grC cl gs) gx) (rcN a b c e) := rfl
  have hoz : outC cl k r d v l gs (a + p0) (b + p1) (c + p2) a b c e nx = outR (apP (kdOf k) false false (a + p0) (b + p1) (c + p2) a b c k r d v (glC cl l) (grK cl gs) (grC cl gs) nx) (rcN a b c e) := rfl
  have hxy : ∀ i, i < rcN a b c e → apP (kdOf k) false false (a + p0) (b + p1) (c + p2) a b c k r d v (glC cl l) (grK cl gs) (grC cl gs) px i = apP (kdOf k) false false (a + p0 - 2) (b + p1 - 2) (c + p2 + 2) a b c k r d v (glC cl l) (grK cl gs) (grC cl gs) gx i := fun i hi => by
    rw [apP_eq, apP_eq]
    refine congrArg clQ (kdF_congr fun j hj => ?_)
    obtain ⟨x', y', g1, g2, g3, g4, _, g5⟩ := hpl i hi j hj
    rw [g5, g5, hgp x' y' g1 g2 g3 g4]
  have hxz : ∀ i, i < rcN a b c e → apP (kdOf k) false false (a + p0) (b + p1) (c + p2) a b c k r d v (glC cl l) (grK cl gs) (grC cl gs) px i ≠ apP (kdOf k) false false (a + p0) (b + p1) (c + p2) a b c k r d v (glC cl l) (grK cl gs) (grC cl gs) nx i →
      a + Int.ofNat (i % (c - a).toNat) + p0 ≤ a + p0 + Int.ofNat (t % (c + p2 - (a + p0)).toNat) ∧ a + p0 + Int.ofNat (t % (c + p2 - (a + p0)).toNat) ≤ a + Int.ofNat (i % (c - a).toNat) + p2 ∧ b + Int.ofNat (i / (c - a).toNat) + p1 ≤ b + p1 + Int.ofNat (t / (c + p2 - (a + p0)).toNat) ∧ b + p1 + Int.ofNat (t / (c + p2 - (a + p0)).toNat) ≤ b + Int.ofNat (i / (c - a).toNat) + p3 := fun i hi hne => by
    refine Classical.byContradiction fun hno => hne ?_
    rw [apP_eq, apP_eq]
    refine congrArg clQ (kdF_congr fun j hj => ?_)
    obtain ⟨x', y', g1, g2, g3, g4, gr, g5⟩ := hpl i hi j hj
    obtain ⟨k1, _⟩ := hin x' y' g1 g2 g3 g4
    rw [g5, k1, hnp _ fun q => hno ?_]
    obtain ⟨w1, w2⟩ := idx_back (X0 := a + p0) (Y0 := b + p1) (X1 := c + p2) g1 g2 g3 q
    rw [← w1, ← w2]; exact gr
  rw [hox, hoy, hoz]
  generalize apP (kdOf k) false false (a + p0) (b + p1) (c + p2) a b c k r d v (glC cl l) (grK cl gs) (grC cl gs) px = P1 at hxy hxz ⊢
  generalize apP (kdOf k) false false (a + p0 - 2) (b + p1 - 2) (c + p2 + 2) a b c k r d v (glC cl l) (grK cl gs) (grC cl gs) gx = P2 at hxy ⊢
  generalize apP (kdOf k) false false (a + p0) (b + p1) (c + p2) a b c k r d v (glC cl l) (grK cl gs) (grC cl gs) nx = P3 at hxz ⊢
  have hats := fun (i : Nat) (hi : i < rcN a b c e) => atQ_ok m0 m1 m2 m3 hi (by omega)
  generalize hMM : rcN a b c e = M at *
  have l1 : (outR P1 M).length = M * 4 := outR_len _ _
  have l2 : (outR P2 M).length = M * 4 := outR_len _ _
  have l3 : (outR P3 M).length = M * 4 := outR_len _ _
  show TG Try.prog 3 Try.f7.ntmps (tailN 9 cdLy) _ _
  obtain ⟨tx, ty, tx1, ty1, tw, tg1, tg2, tg3, tg4⟩ := hat
  have hsp : spQ (vBC cl k r d v l gs) k r v (a + p0) (b + p1) (c + p2) t = (a + p0 + Int.ofNat (t % (c + p2 - (a + p0)).toNat) - p2, b + p1 + Int.ofNat (t / (c + p2 - (a + p0)).toNat) - p3, a + p0 + Int.ofNat (t % (c + p2 - (a + p0)).toNat) + 1 - p0, b + p1 + Int.ofNat (t / (c + p2 - (a + p0)).toNat) + 1 - p1) := by
    unfold spQ
    rw [hv, tx1, ty1, tx, ty]
    exact hspread _ _ _ _ (by omega) (by omega) (by omega) (by omega) (by omega) (by omega)
  have h6 := ly_6 nF nM nS fs ms ss cl k r d v l gs a b c e (a + p0) (b + p1) (c + p2) (e + p3) N px M (outR P1 M) (outR P2 M) (outR P3 M) t
  rw [hsp] at h6
  refine TG_isN1 4 (XY ⟨cl, k, r, d, v, l, gs⟩) mo (by kernel_rfl) h6 (fun p hp => ?_) ?_
  · rcases List.mem_append.1 hp with hp | hp
    · simp only [smOk, List.mem_cons, List.not_mem_nil, or_false] at hp
      rcases hp with rfl | rfl | rfl | rfl | rfl | rfl
      · first | trivial | exact ⟨rfl, rfl, rfl, rfl⟩
      · first | trivial | rfl
      · omega
      · omega
      · omega
      · intro i hi
        rw [outR_pix P1 hi, outR_pix P2 hi, hxy i hi]
    rcases List.mem_append.1 hp with hp | hp
    · simp only [List.mem_cons, List.not_mem_nil, or_false] at hp
      rcases hp with rfl | rfl | rfl | rfl | rfl | rfl
      · exact pBq_f rfl
      · exact pBq_f rfl
      · exact pBq_f rfl
      · exact pBq_f (bne_eq_false_iff_eq.2 rfl)
      · exact tw
      · exact tw
    · exact hf5 p hp
  generalize a + p0 + Int.ofNat (t % (c + p2 - (a + p0)).toNat) = U at *
  generalize b + p1 + Int.ofNat (t / (c + p2 - (a + p0)).toNat) = W at *
  show TG Try.prog 3 Try.f7.ntmps tlLy _ _
  refine TG_seq' (by kernel_rfl) ?_
  refine TG_isSeq (XY ⟨cl, k, r, d, v, l, gs⟩) mo anyR (by kernel_rfl) (by kernel_rfl) (ly_8 nF nM nS fs ms ss cl k r d v l gs a b c e M (outR P1 M) (outR P3 M) (U - p2) (W - p3) (U + 1 - p0) (W + 1 - p1)) fun g hg _ => ?_
  rw [List.mem_singleton] at hg; subst hg
  refine ⟨by simp, fun s' hs' => ?_⟩
  refine TG_block (i := 0) (by kernel_rfl) (TG_mono (Q1 := fun y s2 => y = .exit 0 ∧ ∃ i L, normG 3 L s2 = some (sY6 nF nM nS fs ms ss a b c e M (outR P1 M) (outR P3 M) (U - p2) (W - p3) (U + 1 - p0) (W + 1 - p1) i)) ?_ ?_)
  · refine TG_loop_inv (fun k' s => ∃ i, k' = M - i ∧ i ≤ M ∧ ∃ L, normG 3 L s = some (sY6 nF nM nS fs ms ss a b c e M (outR P1 M) (outR P3 M) (U - p2) (W - p3) (U + 1 - p0) (W + 1 - p1) i)) (by kernel_rfl) ?_ M ⟨0, rfl, Nat.zero_le _, _, hs'⟩
    rintro k' s ⟨i, hk', hi, L, hs⟩
    refine TG_norm hs ?_
    refine TG_is (XY ⟨cl, k, r, d, v, l, gs⟩) mo anyR (by kernel_rfl) (ly_9 nF nM nS fs ms ss cl k r d v l gs a b c e M (outR P1 M) (outR P3 M) (U - p2) (W - p3) (U + 1 - p0) (W + 1 - p1) i) fun g hg hc => ?_
    simp only [List.mem_cons, List.not_mem_nil, or_false] at hg
    have hI : Int.ofNat i = (i : Int) := rfl
    have e0 : (Int.ofNat i).toNat = i := rfl
    have h9a : i < M → ∀ p ∈ ly9a a c M (outR P1 M) (outR P3 M) i, p := by
      intro hlt p hp
      have hw := (hats i hlt).2.2.2.2.1
      simp only [ly9a, List.mem_cons, List.not_mem_nil, or_false] at hp
      rcases hp with rfl | rfl | rfl | rfl | rfl | rfl
      · exact hw
      · exact hw
      · rw [hI]; omega
      · rw [e0]; omega
      · rw [hI]; omega
      · rw [e0]; omega
    rcases hg with rfl | rfl | rfl
    · have hlt : i < M := by
        have := of_decide_eq_true (hc (decide (Int.ofNat i < (M : Int)), true) (by simp))
        rw [hI] at this; omega
      have hne : neB (outR P1 M) (outR P3 M) i = true := hc (neB (outR P1 M) (outR P3 M) i, true) (by simp)
      refine ⟨fun p hp => ?_, fun s' hs' => ⟨M - (i + 1), by omega, i + 1, rfl, by omega, _, hs'⟩⟩
      rcases List.mem_append.1 hp with hp | hp
      · exact h9a hlt p hp
      simp only [List.mem_cons, List.not_mem_nil, or_false] at hp
      rcases hp with rfl | rfl
      · refine pBq_f ?_
        have h3 := hxz i hlt (fun q => by
          unfold neB at hne
          rw [g4_out P1 hlt, g4_out P3 hlt, q, q4E_self] at hne
          cases hne)
        obtain ⟨ax, ay, ax1, ay1, _⟩ := hats i hlt
        rw [ax1, ay1, ax, ay]
        generalize a + Int.ofNat (i % (c - a).toNat) = x at h3 ⊢
        generalize b + Int.ofNat (i / (c - a).toNat) = y at h3 ⊢
        unfold insideB
        rw [decide_eq_true (by omega : U - p2 ≤ x), decide_eq_true (by omega : x + 1 ≤ U + 1 - p0), decide_eq_true (by omega : W - p3 ≤ y), decide_eq_true (by omega : y + 1 ≤ W + 1 - p1)]
        simp
      · exact upN (by omega)
    · have hlt : i < M := by
        have := of_decide_eq_true (hc (decide (Int.ofNat i < (M : Int)), true) (by simp))
        rw [hI] at this; omega
      refine ⟨fun p hp => ?_, fun s' hs' => ⟨M - (i + 1), by omega, i + 1, rfl, by omega, _, hs'⟩⟩
      rcases List.mem_append.1 hp with hp | hp
      · exact h9a hlt p hp
      · rw [List.mem_singleton] at hp; subst hp
        exact upN (by omega)
    · exact ⟨by simp, fun s' hs' => ⟨rfl, i, _, hs'⟩⟩
  · rintro y s2 ⟨rfl, i, L, hs2⟩
    rw [outOf_exit]
    simp only [andThen]
    refine TG_norm hs2 ?_
    obtain ⟨h', n', hr'⟩ := ly_10 nF nM nS fs ms ss cl k r d v l gs a b c e M (outR P1 M) (outR P3 M) (U - p2) (W - p3) (U + 1 - p0) (W + 1 - p1) i
    refine TG_ret (XY ⟨cl, k, r, d, v, l, gs⟩) mo _ (by kernel_rfl) hr' fun g hg _ => ?_
    rw [List.mem_singleton] at hg; subst hg
    exact ⟨by simp, _, _, _, rfl, rfl⟩
end
end Go.Proofs.Ytadejpmecljjpaa
