/- FilterShift: the whole function. No conditions. -/
import Derived.Test.YtadejpmecljjpaaFlShA
set_option linter.unusedVariables false
set_option linter.unusedSimpArgs false
set_option linter.unusedSectionVars false
namespace Go.Proofs.Ytadejpmecljjpaa
open Go Go.Eng

theorem err_ok {k r d v : Int} {lK : Nat} {ks : List Int} {lC : Nat} {cs : List Int} (hv : validB k r d v lK ks lC cs = true) {X0 Y0 X1 Y1 a b c e p0 p1 p2 p3 : Int} {N : Nat} (hA : areaQ true k r v a b c e (-1) = (a + p0, b + p1, c + p2, e + p3))
    (m0 : m20 X0) (m1 : m20 Y0) (m2 : m20 X1) (m3 : m20 Y1) (n0 : m20 a) (n1 : m20 b) (n2 : m20 c) (n3 : m20 e) (hX : X0 < X1) (hY : Y0 < Y1) (hx : a < c) (hy : b < e) (hN : N = rcN X0 Y0 X1 Y1) (hsz : rcN a b c e ≤ 262144)
    (i0 : X0 ≤ a + p0) (i1 : c + p2 ≤ X1) (i2 : Y0 ≤ b + p1) (i3 : e + p3 ≤ Y1) : apErr X0 Y0 X1 Y1 a b c e N k r d v lK ks lC cs = 0 :=
  aE_of hv (adm_ok m0 m1 m2 m3) (by rw [hN]; exact rcN_eq m0 m1 m2 m3 hX hY) (adm_ok n0 n1 n2 n3) (by rw [← rcN_eq n0 n1 n2 n3 hx hy]; omega) (by rw [hA]; exact insB_ok i0 i1 i2 i3)
theorem rcN_le8 {a b c e : Int} (h1 : c ≤ a + 20) (h2 : e ≤ b + 20) : rcN a b c e ≤ 400 := by
  unfold rcN
  exact Nat.mul_le_mul (show (e - b).toNat ≤ 20 by omega) (show (c - a).toNat ≤ 20 by omega)
theorem asS_ok {md : Md} {X0 Y0 X1 Y1 a b c e : Int} {N : Nat} {px : List Int} (h1 : N * 4 ≤ px.length) (h2 : errS md.cl md.k md.r md.d md.v md.l md.gs X0 Y0 X1 Y1 a b c e N = 0) (h3 : emptyB a b c e = false) : ∀ p ∈ asS md.cl md.k md.r md.d md.v md.l md.gs X0 Y0 X1 Y1 a b c e N px, p := by
  simp only [asS, List.mem_cons, List.not_mem_nil, or_false]
  rintro p (rfl | rfl | rfl)
  · exact h1
  · exact h2
  · exact h3
/-- a pixel of a rectangle, alone -/
theorem at_ok {a b c e : Int} (m0 : m20 a) (m1 : m20 b) (m2 : m20 c) (m3 : m20 e) {i : Nat} (h : i < rcN a b c e) (hi : i < 1000000) :
    atX a c i = a + Int.ofNat (i % (c - a).toNat) ∧ atY a b c i = b + Int.ofNat (i / (c - a).toNat) ∧ atX1 a c i = a + Int.ofNat (i % (c - a).toNat) + 1 ∧ atY1 a b c i = b + Int.ofNat (i / (c - a).toNat) + 1 ∧
      w64 (c - a) ≠ 0 ∧ a ≤ a + Int.ofNat (i % (c - a).toNat) ∧ b ≤ b + Int.ofNat (i / (c - a).toNat) ∧ a + Int.ofNat (i % (c - a).toNat) < c ∧ b + Int.ofNat (i / (c - a).toNat) < e := by
  obtain ⟨_, q1, q2⟩ := idx_ab m0 m1 m2 m3 h
  have z1 : (0 : Int) ≤ Int.ofNat (i % (c - a).toNat) := Int.natCast_nonneg _
  have z2 : (0 : Int) ≤ Int.ofNat (i / (c - a).toNat) := Int.natCast_nonneg _
  obtain ⟨a1, a2⟩ := m0
  obtain ⟨b1, b2⟩ := m1
  obtain ⟨c1, c2⟩ := m2
  obtain ⟨e1, e2⟩ := m3
  have hW : w64 (c - a) = Int.ofNat (c - a).toNat := by
    rw [w64_id (x := c - a) (by omega) (by omega)]; exact (Int.toNat_of_nonneg (by omega)).symm
  have hq : i / (c - a).toNat ≤ i := Nat.div_le_self _ _
  have t1 : (Int.ofNat i).tmod (Int.ofNat (c - a).toNat) = Int.ofNat (i % (c - a).toNat) := rfl
  have t2 : (Int.ofNat i).tdiv (Int.ofNat (c - a).toNat) = Int.ofNat (i / (c - a).toNat) := rfl
  have z3 : Int.ofNat (i / (c - a).toNat) ≤ 1000000 := by
    have : Int.ofNat (i / (c - a).toNat) ≤ Int.ofNat i := Int.ofNat_le.2 hq
    have e0 : Int.ofNat i = (i : Int) := rfl
    omega
  have hx : atX a c i = a + Int.ofNat (i % (c - a).toNat) := by
    unfold atX
    rw [hW, t1]
    generalize Int.ofNat (i % (c - a).toNat) = u at z1 q1 ⊢
    exact w64_id (by omega) (by omega)
  have hy : atY a b c i = b + Int.ofNat (i / (c - a).toNat) := by
    unfold atY
    rw [hW, t2]
    generalize Int.ofNat (i / (c - a).toNat) = u at z2 z3 q2 ⊢
    rw [w64_id (x := u) (by omega) (by omega)]
    exact w64_id (by omega) (by omega)
  refine ⟨hx, hy, ?_, ?_, ?_, by omega, by omega, q1, q2⟩
  · unfold atX1
    rw [hx]
    generalize Int.ofNat (i % (c - a).toNat) = u at z1 q1 ⊢
    exact w64_id (by omega) (by omega)
  · unfold atY1
    rw [hy]
    generalize Int.ofNat (i / (c - a).toNat) = u at z2 z3 q2 ⊢
    exact w64_id (by omega) (by omega)
  · rw [hW]
    have : Int.ofNat (c - a).toNat = ((c - a).toNat : Int) := rfl
    omega

section
variable (nF nM : Bool) (fs ms : List Int) (md : Md) (lF cF lM cM : Nat) (q0 q1 q2 q3 b0 b1 : Int)
set_option maxRecDepth 100000 in
theorem tgSh (hM : ln nM lM ≤ (rw' nM ms).length) (hmd : MadeIs (rw' nF fs) (min 60 (ln nF lF)) md) :
    TG Try.prog 2 Try.f4.ntmps cdSh (startSt [askV nF nM lF cF lM cM q0 q1 q2 q3, .agg [.int .i64 b0, .int .i64 b1]] (rH [rwI nF fs, rwI nM ms]) 2) (RetG Try.prog 2 Try.f4 fun u _ _ => u = .bool true) := by
  obtain ⟨cl, k, r, d, v, l, gs⟩ := md
  have hv : vBS cl k r d v l gs = true := md_valid hmd
  have hf5 := fa5_ok hmd
  have s0 := smX_bd q0
  have s1 := smX_bd q1
  have s2 := smW_bd q0 q2
  have s3 := smW_bd q1 q3
  have dx0 : 0 ≤ mask 65535 b0 ∧ mask 65535 b0 ≤ 65535 := mask_le (k := 65535) (by omega) b0
  have dy0 : 0 ≤ mask 65535 b1 ∧ mask 65535 b1 ≤ 65535 := mask_le (k := 65535) (by omega) b1
  obtain ⟨p0, p1, p2, p3, hp0, hp1, hp2, hp3, hform⟩ := area_form hv
  have hnd : ndM true (mdS cl k r d v l gs) q0 q1 q2 q3 = (smX q0 + p0, smX q1 + p1, smW q0 q2 + p2, smW q1 q3 + p3) := hform _ _ _ _ (by omega) (by omega) (by omega) (by omega) (by omega) (by omega)
  refine TG_isN1 5 (XL ⟨cl, k, r, d, v, l, gs⟩) mo (by kernel_rfl) (sh_1 nF nM fs ms cl k r d v l gs lF cF lM cM q0 q1 q2 q3 b0 b1) (by
    simp only [List.mem_cons, List.not_mem_nil, or_false]
    rintro p (rfl | rfl)
    · exact hM
    · exact hmd) ?_
  rw [hnd]
  clear hnd
  generalize smX q0 = a at s0 s2 ⊢
  generalize smX q1 = b at s1 s3 ⊢
  generalize smW q0 q2 = c at s2 ⊢
  generalize smW q1 q3 = e at s3 ⊢
  generalize mask 65535 b0 = dx at dx0 ⊢
  generalize mask 65535 b1 = dy at dy0 ⊢
  have m0 : m20 a := ⟨by omega, by omega⟩
  have m1 : m20 b := ⟨by omega, by omega⟩
  have m2 : m20 c := ⟨by omega, by omega⟩
  have m3 : m20 e := ⟨by omega, by omega⟩
  have x0 : m20 (a + p0) := ⟨by omega, by omega⟩
  have x1 : m20 (b + p1) := ⟨by omega, by omega⟩
  have x2 : m20 (c + p2) := ⟨by omega, by omega⟩
  have x3 : m20 (e + p3) := ⟨by omega, by omega⟩
  have hN : (arQ (a + p0, b + p1, c + p2, e + p3)).toNat = rcN (a + p0) (b + p1) (c + p2) (e + p3) := areI_toNat x0 x1 x2 x3 (show a + p0 < c + p2 by omega) (show b + p1 < e + p3 by omega)
  have hM8 : rcN a b c e ≤ 400 := rcN_le8 (by omega) (by omega)
  rw [hN]
  clear hN
  show TG Try.prog 2 Try.f4.ntmps (tailN 5 cdSh) (sSh nF nM fs ms cl k r d v l gs a b c e (a + p0) (b + p1) (c + p2) (e + p3) (rcN (a + p0) (b + p1) (c + p2) (e + p3)) (outR (imgQ (cutN (ln nM lM)) (rw' nM ms)) (rcN (a + p0) (b + p1) (c + p2) (e + p3))) dx dy) _
  generalize hpx : outR (imgQ (cutN (ln nM lM)) (rw' nM ms)) (rcN (a + p0) (b + p1) (c + p2) (e + p3)) = px
  have hlen : px.length = rcN (a + p0) (b + p1) (c + p2) (e + p3) * 4 := by rw [← hpx]; exact outR_len _ _
  clear hpx
  have hf1 : ∀ {x : Bool}, x = true → pBq (!x) false := fun h => pBq_f (by rw [h]; rfl)
  have mv1 : moveQ a b c e dx dy = (a + dx, b + dy, c + dx, e + dy) := moveQ_eq (by omega) (by omega) (by omega) (by omega) (by omega) (by omega)
  have mv2 : moveQ (a + p0) (b + p1) (c + p2) (e + p3) dx dy = (a + p0 + dx, b + p1 + dy, c + p2 + dx, e + p3 + dy) := moveQ_eq (by omega) (by omega) (by omega) (by omega) (by omega) (by omega)
  have hrc : rcN (a + dx) (b + dy) (c + dx) (e + dy) = rcN a b c e := by
    unfold rcN
    rw [show e + dy - (b + dy) = e - b by omega, show c + dx - (a + dx) = c - a by omega]
  have hrc2 : rcN (a + p0 + dx) (b + p1 + dy) (c + p2 + dx) (e + p3 + dy) = rcN (a + p0) (b + p1) (c + p2) (e + p3) := by
    unfold rcN
    rw [show e + p3 + dy - (b + p1 + dy) = e + p3 - (b + p1) by omega, show c + p2 + dx - (a + p0 + dx) = c + p2 - (a + p0) by omega]
  have h2 := sh_2 nF nM fs ms cl k r d v l gs a b c e (a + p0) (b + p1) (c + p2) (e + p3) (rcN (a + p0) (b + p1) (c + p2) (e + p3)) px dx dy
  rw [mv1, mv2] at h2
  simp only [hrc] at h2
  refine TG_isN1 3 (XL ⟨cl, k, r, d, v, l, gs⟩) mo (by kernel_rfl) h2 (fun p hp => ?_) ?_
  · rcases List.mem_append.1 hp with hp | hp
    · exact hf5 p hp
    rcases List.mem_append.1 hp with hp | hp
    · exact asS_ok (md := ⟨cl, k, r, d, v, l, gs⟩) (by omega) (err_ok hv (hform a b c e (by omega) (by omega) (by omega) (by omega) (by omega) (by omega)) x0 x1 x2 x3 m0 m1 m2 m3 (by omega) (by omega) (by omega) (by omega) rfl (by omega) (by omega) (by omega) (by omega) (by omega)) (emptyB_lt (by omega) (by omega)) p hp
    rcases List.mem_append.1 hp with hp | hp
    · exact hf5 p hp
    rcases List.mem_append.1 hp with hp | hp
    · refine asS_ok (md := ⟨cl, k, r, d, v, l, gs⟩) (by omega) (err_ok hv (hform (a + dx) (b + dy) (c + dx) (e + dy) (by omega) (by omega) (by omega) (by omega) (by omega) (by omega)) ?_ ?_ ?_ ?_ ?_ ?_ ?_ ?_ ?_ ?_ ?_ ?_ hrc2.symm ?_ ?_ ?_ ?_ ?_) (emptyB_lt ?_ ?_) p hp
      all_goals first
        | (show rcN (a + dx) (b + dy) (c + dx) (e + dy) ≤ 262144; rw [hrc]; omega)
        | exact ⟨by show -1048576 ≤ _ + _; omega, by show _ + _ ≤ (1048576 : Int); omega⟩
        | (show (_ : Int) + _ < _ + _; omega)
        | (show (_ : Int) + _ ≤ _ + _; omega)
    · simp only [List.mem_cons, List.not_mem_nil, or_false] at hp
      rcases hp with rfl | rfl | rfl | rfl
      · exact pBq_f rfl
      · exact pBq_f rfl
      · exact pBq_f (bne_eq_false_iff_eq.2 rfl)
      · exact hf1 (rcE_self ..)
  generalize hox : outS cl k r d v l gs (a + p0) (b + p1) (c + p2) a b c e px = ox
  have hox' : ox = outR (apP (kdOf k) false false (a + p0) (b + p1) (c + p2) a b c k r d v (glC cl l) (grK cl gs) (grC cl gs) px) (rcN a b c e) := hox.symm
  have hol : ox.length = rcN a b c e * 4 := by rw [hox']; exact outR_len _ _
  generalize hoy : outS cl k r d v l gs (a + p0 + dx) (b + p1 + dy) (c + p2 + dx) (a + dx) (b + dy) (c + dx) (e + dy) px = oy
  have hoy' : oy = outR (apP (kdOf k) false false (a + p0 + dx) (b + p1 + dy) (c + p2 + dx) (a + dx) (b + dy) (c + dx) k r d v (glC cl l) (grK cl gs) (grC cl gs) px) (rcN a b c e) := by
    rw [← hrc]; exact hoy.symm
  have hoyl : oy.length = rcN a b c e * 4 := by rw [hoy']; exact outR_len _ _
  refine TG_seq' (by kernel_rfl) ?_
  refine TG_isSeq (XL ⟨cl, k, r, d, v, l, gs⟩) mo anyR (by kernel_rfl) (by kernel_rfl) (sh_3 nF nM fs ms cl k r d v l gs a b c e (a + p0) (b + p1) (c + p2) (e + p3) _ px _ ox (a + dx) (b + dy) (c + dx) (e + dy) _ oy) fun g hg _ => ?_
  rw [List.mem_singleton] at hg; subst hg
  refine ⟨by simp, fun s' hs' => ?_⟩
  refine TG_block (i := 0) (by kernel_rfl) (TG_mono (Q1 := fun y s2 => y = .exit 0 ∧ ∃ i, normG 2 [5, 6, 7, 8, 11, 13, 15] s2 = some (sS2 nF nM fs ms cl k r d v l gs a b c e (a + p0) (b + p1) (c + p2) (e + p3) (rcN (a + p0) (b + p1) (c + p2) (e + p3)) px (rcN a b c e) ox (a + dx) (b + dy) (c + dx) (e + dy) (rcN a b c e) oy i)) ?_ ?_)
  · refine TG_loop_inv (fun k' s => ∃ i, k' = rcN a b c e - i ∧ i ≤ rcN a b c e ∧ ∃ L, normG 2 L s = some (sS2 nF nM fs ms cl k r d v l gs a b c e (a + p0) (b + p1) (c + p2) (e + p3) (rcN (a + p0) (b + p1) (c + p2) (e + p3)) px (rcN a b c e) ox (a + dx) (b + dy) (c + dx) (e + dy) (rcN a b c e) oy i)) (by kernel_rfl) ?_ (rcN a b c e) ⟨0, rfl, Nat.zero_le _, _, hs'⟩
    rintro k' s ⟨i, hk', hi, L, hs⟩
    refine TG_norm hs ?_
    refine TG_is (XL ⟨cl, k, r, d, v, l, gs⟩) mo anyR (by kernel_rfl) (sh_4 nF nM fs ms cl k r d v l gs a b c e (a + p0) (b + p1) (c + p2) (e + p3) _ px _ ox (a + dx) (b + dy) (c + dx) (e + dy) _ oy i) fun g hg hc => ?_
    simp only [List.mem_cons, List.not_mem_nil, or_false] at hg
    have hI : Int.ofNat i = (i : Int) := rfl
    have e0 : (Int.ofNat i).toNat = i := rfl
    rcases hg with rfl | rfl
    · have hlt : i < rcN a b c e := by
        have := of_decide_eq_true (hc _ (List.mem_singleton.2 rfl))
        rw [hI] at this; omega
      obtain ⟨ax, ay, ax1, ay1, aw, ga, gb, gc, ge⟩ := at_ok m0 m1 m2 m3 hlt (by omega)
      have hpx : apP (kdOf k) false false (a + p0) (b + p1) (c + p2) (atX a c i) (atY a b c i) (atX1 a c i) k r d v (glC cl l) (grK cl gs) (grC cl gs) px 0 = apP (kdOf k) false false (a + p0) (b + p1) (c + p2) a b c k r d v (glC cl l) (grK cl gs) (grC cl gs) px i := by
        unfold apP
        rw [Nat.zero_mod, Nat.zero_div]
        have z : Int.ofNat 0 = 0 := rfl
        rw [z, Int.add_zero, Int.add_zero, ax, ay]
      have hpy : apP (kdOf k) false false (a + p0 + dx) (b + p1 + dy) (c + p2 + dx) (a + dx) (b + dy) (c + dx) k r d v (glC cl l) (grK cl gs) (grC cl gs) px i = apP (kdOf k) false false (a + p0) (b + p1) (c + p2) a b c k r d v (glC cl l) (grK cl gs) (grC cl gs) px i := by
        unfold apP apQ
        rw [show c + dx - (a + dx) = c - a by omega]
        have y1 : a + dx + Int.ofNat (i % (c - a).toNat) = a + Int.ofNat (i % (c - a).toNat) + dx := by omega
        have y2 : b + dy + Int.ofNat (i / (c - a).toNat) = b + Int.ofNat (i / (c - a).toNat) + dy := by omega
        rw [y1, y2, kdQ_shift]
      have hr1 : rcN (atX a c i) (atY a b c i) (atX1 a c i) (atY1 a b c i) = 1 := by
        rw [ax, ay, ax1, ay1]
        unfold rcN
        rw [show b + Int.ofNat (i / (c - a).toNat) + 1 - (b + Int.ofNat (i / (c - a).toNat)) = 1 by omega, show a + Int.ofNat (i % (c - a).toNat) + 1 - (a + Int.ofNat (i % (c - a).toNat)) = 1 by omega]
        rfl
      have hso : shO cl k r d v l gs a b c (a + p0) (b + p1) (c + p2) px i = outR (apP (kdOf k) false false (a + p0) (b + p1) (c + p2) (atX a c i) (atY a b c i) (atX1 a c i) k r d v (glC cl l) (grK cl gs) (grC cl gs) px) 1 := by
        have e1 : shO cl k r d v l gs a b c (a + p0) (b + p1) (c + p2) px i = outR (apP (kdOf k) false false (a + p0) (b + p1) (c + p2) (atX a c i) (atY a b c i) (atX1 a c i) k r d v (glC cl l) (grK cl gs) (grC cl gs) px) (rcN (atX a c i) (atY a b c i) (atX1 a c i) (atY1 a b c i)) := rfl
        rw [e1, hr1]
      refine ⟨fun p hp => ?_, fun s' hs' => ⟨rcN a b c e - (i + 1), by omega, i + 1, rfl, by omega, _, hs'⟩⟩
      unfold shC at hp
      rcases List.mem_append.1 hp with hp | hp
      · simp only [List.mem_cons, List.not_mem_nil, or_false, or_self] at hp
        subst hp; exact aw
      rcases List.mem_append.1 hp with hp | hp
      · exact hf5 p hp
      rcases List.mem_append.1 hp with hp | hp
      · rw [ax, ay, ax1, ay1] at hp
        rw [ax, ay, ax1, ay1] at hr1
        generalize Int.ofNat (i % (c - a).toNat) = u at *
        generalize Int.ofNat (i / (c - a).toNat) = t at *
        exact asS_ok (md := ⟨cl, k, r, d, v, l, gs⟩) (by omega) (err_ok hv (hform (a + u) (b + t) (a + u + 1) (b + t + 1) (by omega) (by omega) (by omega) (by omega) (by omega) (by omega)) x0 x1 x2 x3 ⟨by omega, by omega⟩ ⟨by omega, by omega⟩ ⟨by omega, by omega⟩ ⟨by omega, by omega⟩ (by omega) (by omega) (by omega) (by omega) rfl (by rw [hr1]; omega) (by omega) (by omega) (by omega) (by omega)) (emptyB_lt (by omega) (by omega)) p hp
      · simp only [List.mem_cons, List.not_mem_nil, or_false] at hp
        have hin : 0 ≤ Int.ofNat i ∧ Int.ofNat i < (rcN a b c e : Int) := by rw [hI]; omega
        have hl4 : 0 + (Int.ofNat i).toNat * 4 + 4 ≤ ox.length := by rw [hol, e0]; omega
        have hl5 : 0 + (Int.ofNat i).toNat * 4 + 4 ≤ oy.length := by rw [hoyl, e0]; omega
        rcases hp with rfl | rfl | rfl | rfl | rfl | rfl | rfl | rfl | rfl | rfl | rfl | rfl | rfl
        · exact pBq_f rfl
        · exact pBq_f (bne_eq_false_iff_eq.2 (by rw [hr1]; rfl))
        · rw [hr1]; omega
        · rw [hso, outR_len]; omega
        · exact hin
        · exact hl4
        · refine hf1 ?_
          rw [hso, hox', e0]
          exact px4B_of (i := 0) (j := i) (by omega) hlt hpx
        · exact hin
        · exact hl5
        · exact hin
        · exact hl4
        · refine hf1 ?_
          rw [hoy', hox', e0]
          exact px4B_of hlt hlt hpy
        · exact upN (by omega)
    · exact ⟨by simp, fun s' hs' => ⟨rfl, i, hs'⟩⟩
  · rintro y s2 ⟨rfl, i, hs2⟩
    rw [outOf_exit]
    simp only [andThen]
    refine TG_norm hs2 ?_
    obtain ⟨h', n', hr'⟩ := sh_5 nF nM fs ms cl k r d v l gs a b c e (a + p0) (b + p1) (c + p2) (e + p3) (rcN (a + p0) (b + p1) (c + p2) (e + p3)) px (rcN a b c e) ox (a + dx) (b + dy) (c + dx) (e + dy) (rcN a b c e) oy i
    refine TG_ret (XL ⟨cl, k, r, d, v, l, gs⟩) mo _ (by kernel_rfl) hr' fun g hg _ => ?_
    rw [List.mem_singleton] at hg; subst hg
    exact ⟨by simp, _, _, _, rfl, rfl⟩
end
end Go.Proofs.Ytadejpmecljjpaa
