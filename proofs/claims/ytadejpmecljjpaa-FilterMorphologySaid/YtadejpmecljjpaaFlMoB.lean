/- FilterMorphology: the whole function. No conditions. -/
import Derived.Test.YtadejpmecljjpaaFlMoP
set_option linter.unusedVariables false
set_option linter.unusedSimpArgs false
set_option linter.unusedSectionVars false
namespace Go.Proofs.Ytadejpmecljjpaa
open Go Go.Eng
theorem asK_ok {k n X0 Y0 X1 Y1 a b c e : Int} {N : Nat} {px : List Int} (h1 : N * 4 ≤ px.length) (h2 : apErr X0 Y0 X1 Y1 a b c e N k n 0 0 0 [] 0 [] = 0) (h3 : emptyB a b c e = false) : ∀ p ∈ asK k n X0 Y0 X1 Y1 a b c e N px, p := by
  intro p hp
  rcases List.mem_append.1 hp with hp | hp
  · simp only [fa0, List.mem_cons, List.not_mem_nil, or_false] at hp
    rcases hp with rfl | rfl | rfl | rfl
    · exact Nat.le_refl 0
    · exact Nat.zero_le _
    · exact Nat.le_refl 0
    · exact Nat.zero_le _
  · simp only [List.mem_cons, List.not_mem_nil, or_false] at hp
    rcases hp with rfl | rfl | rfl
    · exact h1
    · exact h2
    · exact h3
theorem mod4_ok {b0 : Int} (h : 0 ≤ b0 ∧ b0 ≤ 255) : ∃ n : Nat, n ≤ 3 ∧ w64 (b0.tmod 4) = Int.ofNat n := by
  obtain ⟨u, rfl⟩ := Int.eq_ofNat_of_zero_le h.1
  have e : (u : Int).tmod 4 = Int.ofNat (u % 4) := rfl
  rw [e]
  have h2 : u % 4 < 4 := Nat.mod_lt _ (by omega)
  refine ⟨u % 4, by omega, ?_⟩
  generalize u % 4 = t at h2 ⊢
  have : Int.ofNat t = (t : Int) := rfl
  rw [this]; exact w64_id (by omega) (by omega)
section
variable (nF nM : Bool) (fs ms : List Int) (lF cF lM cM : Nat) (q0 q1 q2 q3 b0 : Int)
set_option maxRecDepth 100000 in
theorem tgMo (hM : ln nM lM ≤ (rw' nM ms).length) (hcM : ln nM lM ≤ ln nM cM) (hb : 0 ≤ b0 ∧ b0 ≤ 255) :
    TG Try.prog 2 Try.f5.ntmps cdMo (startSt [askV nF nM lF cF lM cM q0 q1 q2 q3, .int .u8 b0] (rH [rwI nF fs, rwI nM ms]) 2) (RetG Try.prog 2 Try.f5 fun u _ _ => u = .bool true) := by
  have s0 := smX_bd q0
  have s1 := smX_bd q1
  have s2 := smW_bd q0 q2
  have s3 := smW_bd q1 q3
  obtain ⟨n, hn, hen⟩ := mod4_ok hb
  have hG : moG q0 q1 q2 q3 n = (smX q0 - n, smX q1 - n, smW q0 q2 + n, smW q1 q3 + n) := growQn hn (by omega) (by omega) (by omega) (by omega) (by omega) (by omega)
  have hcut := cutN_eq (ln nM lM)
  have hr1 := mo_1 nF nM fs ms n lF cF lM cM q0 q1 q2 q3 b0
  rw [hG] at hr1
  generalize smX q0 = a at s0 s2 hr1
  generalize smX q1 = b at s1 s3 hr1
  generalize smW q0 q2 = c at s2 hr1
  generalize smW q1 q3 = e at s3 hr1
  have m0 : m20 a := ⟨by omega, by omega⟩
  have m1 : m20 b := ⟨by omega, by omega⟩
  have m2 : m20 c := ⟨by omega, by omega⟩
  have m3 : m20 e := ⟨by omega, by omega⟩
  have x0 : m20 (a - n) := ⟨by omega, by omega⟩
  have x1 : m20 (b - n) := ⟨by omega, by omega⟩
  have x2 : m20 (c + n) := ⟨by omega, by omega⟩
  have x3 : m20 (e + n) := ⟨by omega, by omega⟩
  have hM8 : rcN a b c e ≤ 400 := rcN_20 (by omega) (by omega)
  have hN8 : rcN (a - n) (b - n) (c + n) (e + n) ≤ 400 := rcN_20 (by omega) (by omega)
  have hN1 : 0 < rcN (a - n) (b - n) (c + n) (e + n) := rcN_pos (emptyB_lt (by omega) (by omega))
  have ar : arQ (a - n, b - n, c + n, e + n) = (rcN (a - n) (b - n) (c + n) (e + n) : Int) := (rcN_eq x0 x1 x2 x3 (by omega) (by omega)).symm
  have hR : moR nM ms lM (a - n, b - n, c + n, e + n) = outR (imgQ (cutN (ln nM lM)) (rw' nM ms)) (rcN (a - n) (b - n) (c + n) (e + n)) := by
    unfold moR
    rw [ar, Int.toNat_natCast]
  rw [hR, ar, Int.toNat_natCast] at hr1
  have hl0 : (outR (imgQ (cutN (ln nM lM)) (rw' nM ms)) (rcN (a - n) (b - n) (c + n) (e + n))).length = rcN (a - n) (b - n) (c + n) (e + n) * 4 := outR_len _ _
  have hp0 : ∀ i, i < rcN (a - n) (b - n) (c + n) (e + n) → pixQ (outR (imgQ (cutN (ln nM lM)) (rw' nM ms)) (rcN (a - n) (b - n) (c + n) (e + n))) (Int.ofNat i) = imgQ (cutN (ln nM lM)) (rw' nM ms) i := fun i hi => outR_pix _ hi
  generalize hQQ : outR (imgQ (cutN (ln nM lM)) (rw' nM ms)) (rcN (a - n) (b - n) (c + n) (e + n)) = p0 at hr1 hl0 hp0
  have hrg := imgQ_rng (cutN (ln nM lM)) (rw' nM ms)
  generalize imgQ (cutN (ln nM lM)) (rw' nM ms) = I at hp0 hrg
  refine TG_isN1 5 XMo mo (by kernel_rfl) hr1 (fun p hp => ?_) ?_
  · rcases List.mem_append.1 hp with hp | hp
    · simp only [List.mem_cons, List.not_mem_nil, or_false] at hp
      have hcap : capI (cutI (ln nM lM)) (ln nM cM) := by
        unfold capI
        rw [hcut.2]
        have : Int.ofNat (min 200 (ln nM lM)) = ((min 200 (ln nM lM) : Nat) : Int) := rfl
        rw [this]
        have h3 : Int.ofNat (ln nM cM) = (ln nM cM : Int) := rfl
        rw [h3]; omega
      rcases hp with rfl | rfl | rfl | rfl | rfl | rfl | rfl
      · rw [hen]
      · exact hcap
      · exact hcap
      · rw [hcut.1]; omega
      · rw [hcut.1]; omega
      · omega
      · omega
    · simp only [opOk, List.mem_cons, List.not_mem_nil, or_false] at hp
      rcases hp with rfl | rfl | rfl
      · exact hN1
      · omega
      · omega
  clear hr1
  show TG Try.prog 2 Try.f5.ntmps (tailN 5 cdMo) (sM0 nF nM fs ms a b c e (a - n) (b - n) (c + n) (e + n) (rcN (a - n) (b - n) (c + n) (e + n)) (orow (p0.take (rcN (a - n) (b - n) (c + n) (e + n) * 4)) (rcN (a - n) (b - n) (c + n) (e + n))) n) _
  rw [List.take_of_length_le (by omega)]
  have hlen : (orow p0 (rcN (a - n) (b - n) (c + n) (e + n))).length = rcN (a - n) (b - n) (c + n) (e + n) * 4 := by rw [orow_len p0 _ (by omega) _ (Nat.le_refl _), hl0]
  have hop : ∀ i, i < rcN (a - n) (b - n) (c + n) (e + n) → Opq (pixQ (orow p0 (rcN (a - n) (b - n) (c + n) (e + n))) (Int.ofNat i)) := fun i hi => by
    rw [orow_pix (by omega) hi, hp0 i hi]
    exact ⟨(hrg i).1, (hrg i).2.1, (hrg i).2.2, rfl⟩
  generalize orow p0 (rcN (a - n) (b - n) (c + n) (e + n)) = px at hlen hop ⊢
  -- the places of a window
  have hz : Int.ofNat n = (n : Int) := rfl
  have hplace : ∀ (x y : Int) (i : Nat), i < sq (Int.ofNat n) → ∃ x' y' : Int, x + -(n : Int) ≤ x' ∧ x' ≤ x + n ∧ y + -(n : Int) ≤ y' ∧ y' ≤ y + n ∧ ∀ X0 Y0 X1, wix X0 Y0 X1 (Int.ofNat n) 0 x y (kdOf 3) i = idxE X0 Y0 X1 x' y' := by
    intro x y i hi
    obtain ⟨x', y', h1, h2, h3, h4, h5⟩ := win_place x y n (i := i) hi
    exact ⟨x', y', by omega, by omega, by omega, by omega, h5⟩
  have hin : ∀ x' y' : Int, a + -(n : Int) ≤ x' → x' < c + n → b + -(n : Int) ≤ y' → y' < e + n → ∃ t, idxE (a - n) (b - n) (c + n) x' y' = Int.ofNat t ∧ t < rcN (a - n) (b - n) (c + n) (e + n) := fun x' y' g1 g2 g3 g4 => ⟨_, idx_nat x0 x1 x2 x3 (by omega) g2 (by omega) g4⟩
  have hw : ∀ i, i < rcN a b c e → ∀ j, j < sq (Int.ofNat n) → ∃ t : Nat, t < rcN (a - n) (b - n) (c + n) (e + n) ∧ wix (a - n) (b - n) (c + n) (Int.ofNat n) 0 (a + Int.ofNat (i % (c - a).toNat)) (b + Int.ofNat (i / (c - a).toNat)) .rk j = Int.ofNat t := fun i hi j hj => by
    obtain ⟨x', y', g1, g2, g3, g4, _, g5⟩ := ap_place hplace m0 m1 m2 m3 hi j hj
    obtain ⟨t, ht1, ht2⟩ := hin x' y' g1 g2 g3 g4
    exact ⟨t, ht2, by rw [← ht1]; exact g5 _ _ _⟩
  -- what is made, pixel by pixel
  have hrk : ∀ k, (k = 2 ∨ k = 3 ∨ k = 4) → ∀ i, i < rcN a b c e → apP (kdOf k) false false (a - n) (b - n) (c + n) a b c k (Int.ofNat n) 0 0 0 [] [] px i = rkO k (fun j => pixQ px (wix (a - n) (b - n) (c + n) (Int.ofNat n) 0 (a + Int.ofNat (i % (c - a).toNat)) (b + Int.ofNat (i / (c - a).toNat)) .rk j)) (sq (Int.ofNat n)) := fun k hk i hi => by
    rw [apP_eq, kd_rk hk]
    refine rk_op fun j hj => ?_
    obtain ⟨t, ht, e⟩ := hw i hi j hj
    rw [e]; exact hop t ht
  have hgo : ∀ i, i < rcN a b c e → ∀ j, j < sq (Int.ofNat n) → Opq (pixQ px (wix (a - n) (b - n) (c + n) (Int.ofNat n) 0 (a + Int.ofNat (i % (c - a).toNat)) (b + Int.ofNat (i / (c - a).toNat)) .rk j)) := fun i hi j hj => by
    obtain ⟨t, ht, e⟩ := hw i hi j hj
    rw [e]; exact hop t ht
  have hinv : ∀ (A B C E : Int) (w : List Int) (i : Nat), m20 A → m20 B → m20 C → m20 E → i < rcN A B C E → Opq (pixQ w (Int.ofNat i)) → apP (kdOf 6) false false A B C A B C 6 0 0 0 0 [] [] w i = ivQ (pixQ w (Int.ofNat i)) := fun A B C E w i hA hB hC hE hi ho => by
    have h1 : idxE A B C (A + Int.ofNat (i % (C - A).toNat)) (B + Int.ofNat (i / (C - A).toNat)) = Int.ofNat i := (idx_ab hA hB hC hE hi).1
    rw [apP_eq]
    have e0 : pixQ w (wix A B C 0 0 (A + Int.ofNat (i % (C - A).toNat)) (B + Int.ofNat (i / (C - A).toNat)) (kdOf 6) 0) = pixQ w (Int.ofNat i) := by
      show pixQ w (idxE A B C _ _) = _
      rw [h1]
    have h2 := inv_op (k := 6) (r := 0) (d := 0) (v := 0) (ks := []) (lC := 0) (cs := []) (g := fun m => pixQ w (wix A B C 0 0 (A + Int.ofNat (i % (C - A).toNat)) (B + Int.ofNat (i / (C - A).toNat)) (kdOf 6) m)) (by show Opq (pixQ w (wix A B C 0 0 _ _ (kdOf 6) 0)); rw [e0]; exact ho)
    exact h2.trans (congrArg ivQ e0)
  have ht : apK 6 0 (a - n) (b - n) (c + n) (a - n) (b - n) (c + n) (e + n) px = outR (apP (kdOf 6) false false (a - n) (b - n) (c + n) (a - n) (b - n) (c + n) 6 0 0 0 0 [] [] px) (rcN (a - n) (b - n) (c + n) (e + n)) := rfl
  have hol : ∀ k (w : List Int), apK k (Int.ofNat n) (a - n) (b - n) (c + n) a b c e w = outR (apP (kdOf k) false false (a - n) (b - n) (c + n) a b c k (Int.ofNat n) 0 0 0 [] [] w) (rcN a b c e) := fun _ _ => rfl
  have hob : ∀ (w : List Int), apK 6 0 a b c a b c e w = outR (apP (kdOf 6) false false a b c a b c 6 0 0 0 0 [] [] w) (rcN a b c e) := fun _ => rfl
  have hal : ∀ (k n' A B C A' B' C' E' : Int) (w : List Int), (apK k n' A B C A' B' C' E' w).length = rcN A' B' C' E' * 4 := fun k n' A B C A' B' C' E' w => outR_len _ _
  have hsame : ∀ i, i < rcN a b c e → pixQ (apK 3 (Int.ofNat n) (a - n) (b - n) (c + n) a b c e (apK 6 0 (a - n) (b - n) (c + n) (a - n) (b - n) (c + n) (e + n) px)) (Int.ofNat i) = pixQ (apK 6 0 a b c a b c e (apK 4 (Int.ofNat n) (a - n) (b - n) (c + n) a b c e px)) (Int.ofNat i) := fun i hi => by
    have e1 : pixQ (apK 4 (Int.ofNat n) (a - n) (b - n) (c + n) a b c e px) (Int.ofNat i) = rkO 4 (fun j => pixQ px (wix (a - n) (b - n) (c + n) (Int.ofNat n) 0 (a + Int.ofNat (i % (c - a).toNat)) (b + Int.ofNat (i / (c - a).toNat)) .rk j)) (sq (Int.ofNat n)) := by
      rw [hol, outR_pix _ hi]; exact hrk 4 (by omega) i hi
    have e2 : pixQ (apK 6 0 a b c a b c e (apK 4 (Int.ofNat n) (a - n) (b - n) (c + n) a b c e px)) (Int.ofNat i) = ivQ (rkO 4 (fun j => pixQ px (wix (a - n) (b - n) (c + n) (Int.ofNat n) 0 (a + Int.ofNat (i % (c - a).toNat)) (b + Int.ofNat (i / (c - a).toNat)) .rk j)) (sq (Int.ofNat n))) := by
      rw [hob, outR_pix _ hi, hinv a b c e _ i m0 m1 m2 m3 hi (by rw [e1]; exact rkO_op fun j hj => hgo i hi j hj), e1]
    rw [e2, hol, outR_pix _ hi, apP_eq, kd_rk (k := 3) (by omega)]
    have hg' : ∀ j, j < sq (Int.ofNat n) → pixQ (apK 6 0 (a - n) (b - n) (c + n) (a - n) (b - n) (c + n) (e + n) px) (wix (a - n) (b - n) (c + n) (Int.ofNat n) 0 (a + Int.ofNat (i % (c - a).toNat)) (b + Int.ofNat (i / (c - a).toNat)) .rk j) = ivQ (pixQ px (wix (a - n) (b - n) (c + n) (Int.ofNat n) 0 (a + Int.ofNat (i % (c - a).toNat)) (b + Int.ofNat (i / (c - a).toNat)) .rk j)) := fun j hj => by
      obtain ⟨t, htl, e⟩ := hw i hi j hj
      rw [e, ht, outR_pix _ htl]
      exact hinv _ _ _ _ px t x0 x1 x2 x3 htl (hop t htl)
    rw [rk_op fun j hj => by rw [hg' j hj]; exact ivQ_op (hgo i hi j hj)]
    exact dual_op hg'
  have hem : emptyB a b c e = false := emptyB_lt (by omega) (by omega)
  have hemX : emptyB (a - n) (b - n) (c + n) (e + n) = false := emptyB_lt (by omega) (by omega)
  have herr : ∀ k, (k = 2 ∨ k = 3 ∨ k = 4) → apErr (a - n) (b - n) (c + n) (e + n) a b c e (rcN (a - n) (b - n) (c + n) (e + n)) k (Int.ofNat n) 0 0 0 [] 0 [] = 0 := fun k hk =>
    errC_ok (valid_rk hk hn) (area_rk hk (by omega) (by omega) (by omega) (by omega) (by omega) (by omega) (by omega) (by omega)) x0 x1 x2 x3 m0 m1 m2 m3 (by omega) (by omega) (by omega) (by omega) rfl (by omega) (by omega) (by omega) (by omega) (by omega)
  have herr6 : apErr a b c e a b c e (rcN a b c e) 6 0 0 0 0 [] 0 [] = 0 := errC_ok valid_inv (area_pt (by omega) (by omega) (by omega)) m0 m1 m2 m3 m0 m1 m2 m3 (by omega) (by omega) (by omega) (by omega) rfl (by omega) (by omega) (by omega) (by omega) (by omega)
  have herr6X : apErr (a - n) (b - n) (c + n) (e + n) (a - n) (b - n) (c + n) (e + n) (rcN (a - n) (b - n) (c + n) (e + n)) 6 0 0 0 0 [] 0 [] = 0 := errC_ok valid_inv (area_pt (by omega) (by omega) (by omega)) x0 x1 x2 x3 x0 x1 x2 x3 (by omega) (by omega) (by omega) (by omega) rfl (by omega) (by omega) (by omega) (by omega) (by omega)
  refine TG_isN1 10 XMo mo (by kernel_rfl) (mo_2 nF nM fs ms a b c e (a - n) (b - n) (c + n) (e + n) (rcN (a - n) (b - n) (c + n) (e + n)) px n) (fun p hp => ?_) ?_
  · unfold mo2 at hp
    rcases List.mem_append.1 hp with hp | hp
    · exact asK_ok (by omega) herr6X hemX p hp
    rcases List.mem_append.1 hp with hp | hp
    · exact asK_ok (by omega) (herr 3 (by omega)) hem p hp
    rcases List.mem_append.1 hp with hp | hp
    · exact asK_ok (by omega) (herr 4 (by omega)) hem p hp
    rcases List.mem_append.1 hp with hp | hp
    · exact asK_ok (by omega) (herr 2 (by omega)) hem p hp
    rcases List.mem_append.1 hp with hp | hp
    · exact asK_ok (by rw [hal]; omega) (herr 3 (by omega)) hem p hp
    rcases List.mem_append.1 hp with hp | hp
    · exact asK_ok (by rw [hal]; omega) herr6 hem p hp
    rcases List.mem_append.1 hp with hp | hp
    · simp only [List.mem_cons, List.not_mem_nil, or_false, or_self] at hp
      subst hp; exact pBq_f rfl
    rcases List.mem_append.1 hp with hp | hp
    · simp only [smOk, List.mem_cons, List.not_mem_nil, or_false] at hp
      rcases hp with rfl | rfl | rfl | rfl | rfl | rfl
      · first | trivial | exact ⟨rfl, rfl, rfl, rfl⟩
      · first | trivial | rfl
      · rw [hal]; omega
      · rw [hal]; omega
      · omega
      · exact hsame
    · simp only [List.mem_cons, List.not_mem_nil, or_false, or_self] at hp
      subst hp; exact pBq_f (bne_eq_false_iff_eq.2 rfl)
  rw [hol, hol, hol]
  have hk3 := hrk 3 (by omega)
  have hk4 := hrk 4 (by omega)
  have hk2 := hrk 2 (by omega)
  generalize apP (kdOf 3) false false (a - n) (b - n) (c + n) a b c 3 (Int.ofNat n) 0 0 0 [] [] px = P3 at hk3 ⊢
  generalize apP (kdOf 4) false false (a - n) (b - n) (c + n) a b c 4 (Int.ofNat n) 0 0 0 [] [] px = P4 at hk4 ⊢
  generalize apP (kdOf 2) false false (a - n) (b - n) (c + n) a b c 2 (Int.ofNat n) 0 0 0 [] [] px = P2 at hk2 ⊢
  have hm := sq_pos (Int.ofNat n)
  have r32 : rkI 3 (sq (Int.ofNat n)) ≤ rkI 2 (sq (Int.ofNat n)) := Nat.zero_le _
  have r24 : rkI 2 (sq (Int.ofNat n)) ≤ rkI 4 (sq (Int.ofNat n)) := by show sq (Int.ofNat n) / 2 ≤ sq (Int.ofNat n) - 1; omega
  have hlm : ∀ i, i < rcN a b c e → (P3 i).1 ≤ (P2 i).1 ∧ (P2 i).1 ≤ (P4 i).1 ∧ (P3 i).2.1 ≤ (P2 i).2.1 ∧ (P2 i).2.1 ≤ (P4 i).2.1 ∧ (P3 i).2.2.1 ≤ (P2 i).2.2.1 ∧ (P2 i).2.2.1 ≤ (P4 i).2.2.1 ∧ (P2 i).2.2.2 = 255 := fun i hi => by
    rw [hk3 i hi, hk4 i hi, hk2 i hi]
    exact ⟨rk_mono hm r32, rk_mono hm r24, rk_mono hm r32, rk_mono hm r24, rk_mono hm r32, rk_mono hm r24, rfl⟩
  clear hrk hk3 hk4 hk2 hsame hgo hw hplace hinv
  generalize rcN a b c e = M at *
  have l3 : (outR P3 M).length = M * 4 := outR_len _ _
  have l4 : (outR P4 M).length = M * 4 := outR_len _ _
  have l2 : (outR P2 M).length = M * 4 := outR_len _ _
  show TG Try.prog 2 Try.f5.ntmps tlMo _ _
  refine TG_seq' (by kernel_rfl) ?_
  refine TG_isSeq XMo mo anyR (by kernel_rfl) (by kernel_rfl) (mo_3 nF nM fs ms a b c e M (outR P3 M) (outR P4 M) (outR P2 M)) fun g hg _ => ?_
  rw [List.mem_singleton] at hg; subst hg
  refine ⟨by simp, fun s' hs' => ?_⟩
  refine TG_block (i := 0) (by kernel_rfl) (TG_mono (Q1 := fun y s2 => y = .exit 0 ∧ ∃ i L, normG 2 L s2 = some (sM2 nF nM fs ms a b c e M (outR P3 M) (outR P4 M) (outR P2 M) i)) ?_ ?_)
  · refine TG_loop_inv (fun k' s => ∃ i, k' = M - i ∧ i ≤ M ∧ ∃ L, normG 2 L s = some (sM2 nF nM fs ms a b c e M (outR P3 M) (outR P4 M) (outR P2 M) i)) (by kernel_rfl) ?_ M ⟨0, rfl, Nat.zero_le _, _, hs'⟩
    rintro k' s ⟨i, hk', hi, L, hs⟩
    refine TG_norm hs ?_
    refine TG_is XMo mo anyR (by kernel_rfl) (mo_4 nF nM fs ms a b c e M (outR P3 M) (outR P4 M) (outR P2 M) i) fun g hg hc => ?_
    simp only [List.mem_cons, List.not_mem_nil, or_false] at hg
    have hI : Int.ofNat i = (i : Int) := rfl
    have e0 : (Int.ofNat i).toNat = i := rfl
    rcases hg with rfl | rfl
    · have hlt : i < M := by
        have := of_decide_eq_true (hc _ (List.mem_singleton.2 rfl))
        rw [hI] at this; omega
      refine ⟨fun p hp => ?_, fun s' hs' => ⟨M - (i + 1), by omega, i + 1, rfl, by omega, _, hs'⟩⟩
      obtain ⟨c1, c2, c3, c4, c5, c6, c7⟩ := hlm i hlt
      have hin : 0 ≤ Int.ofNat i ∧ Int.ofNat i < (M : Int) := by rw [hI]; omega
      unfold mo4 at hp
      rw [g4_out P3 hlt, g4_out P4 hlt, g4_out P2 hlt] at hp
      simp only [List.mem_cons, List.not_mem_nil, or_false] at hp
      rcases hp with rfl | rfl | rfl | rfl | rfl | rfl | rfl | rfl | rfl | rfl | rfl | rfl | rfl | rfl
      · exact hin
      · rw [l3, e0]; omega
      · exact hin
      · rw [l2, e0]; omega
      · exact hin
      · rw [l4, e0]; omega
      · exact pBq_f (decide_eq_false (by omega))
      · exact pBq_f (decide_eq_false (by omega))
      · exact pBq_f (decide_eq_false (by omega))
      · exact pBq_f (decide_eq_false (by omega))
      · exact pBq_f (decide_eq_false (by omega))
      · exact pBq_f (decide_eq_false (by omega))
      · exact pBq_f (bne_eq_false_iff_eq.2 c7)
      · exact upN (by omega)
    · exact ⟨by simp, fun s' hs' => ⟨rfl, i, _, hs'⟩⟩
  · rintro y s2 ⟨rfl, i, L, hs2⟩
    rw [outOf_exit]
    simp only [andThen]
    refine TG_norm hs2 ?_
    obtain ⟨h', n', hr'⟩ := mo_5 nF nM fs ms a b c e M (outR P3 M) (outR P4 M) (outR P2 M) i
    refine TG_ret XMo mo _ (by kernel_rfl) hr' fun g hg _ => ?_
    rw [List.mem_singleton] at hg; subst hg
    exact ⟨by simp, _, _, _, rfl, rfl⟩
end
end Go.Proofs.Ytadejpmecljjpaa
