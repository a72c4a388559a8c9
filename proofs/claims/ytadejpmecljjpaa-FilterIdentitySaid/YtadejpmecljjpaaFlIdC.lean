/- FilterIdentity: the whole function. No conditions. -/
import Derived.Test.YtadejpmecljjpaaFlIdP
set_option linter.unusedVariables false
set_option linter.unusedSimpArgs false
set_option linter.unusedSectionVars false
namespace Go.Proofs.Ytadejpmecljjpaa
open Go Go.Eng
theorem mod3_ok {b0 : Int} (h : 0 ≤ b0 ∧ b0 ≤ 255) : ∃ n : Nat, n ≤ 2 ∧ w64 (b0.tmod 3) = Int.ofNat n := by
  obtain ⟨u, rfl⟩ := Int.eq_ofNat_of_zero_le h.1
  have e : (u : Int).tmod 3 = Int.ofNat (u % 3) := rfl
  rw [e]
  have h2 : u % 3 < 3 := Nat.mod_lt _ (by omega)
  refine ⟨u % 3, by omega, ?_⟩
  generalize u % 3 = t at h2 ⊢
  have : Int.ofNat t = (t : Int) := rfl
  rw [this]; exact w64_id (by omega) (by omega)
theorem ker_len (n : Nat) (dv : Int) : (kerL n dv).length = kK n := by
  unfold kerL
  have h1 : 0 < kK n := Nat.mul_pos (by omega) (by omega)
  rw [putI_len (by rw [rep1_len]; show 0 + kK n / 2 * 1 + 1 ≤ kK n; omega), rep1_len]
theorem valid_cv {n : Nat} (hn : n ≤ 2) {dv : Int} (hd : 1 ≤ dv ∧ dv ≤ 256) : validB 1 (Int.ofNat n) dv 0 (kK n) (kerL n dv) 0 [] = true := by
  have h1 : within (Int.ofNat n) 0 3 = true := within_iff'.2 ⟨Int.natCast_nonneg _, by have : Int.ofNat n = (n : Int) := rfl; omega⟩
  have h2 : decide (Int.ofNat (kK n) = w64 (side (Int.ofNat n) * side (Int.ofNat n))) = true := by
    have : n = 0 ∨ n = 1 ∨ n = 2 := by omega
    rcases this with rfl | rfl | rfl <;> decide
  have h3 : within dv 1 1048576 = true := within_iff'.2 ⟨by omega, by omega⟩
  have h4 : badB (kK n) (kerL n dv) = false := badB_none fun i hi => by
    have e : at0 (kerL n dv) i = (kerL n dv).getD i 0 := rfl
    rw [e, ker_get]
    unfold outB
    rw [within_iff'.2 (by split <;> omega)]; rfl
  unfold validB
  rw [if_pos rfl]
  simp only [chV, chB, h1, h2, h3, h4, decide_true, Bool.not_false]
  rfl
theorem area_w {k n v : Int} (hk : within k 1 4 = true) (g1 : 0 ≤ n) (g2 : n ≤ 3) {a b c e : Int} (h1 : a < c) (h2 : b < e) (h3 : -1000000 ≤ a) (h4 : -1000000 ≤ b) (h5 : c ≤ 1000000) (h6 : e ≤ 1000000) : areaQ true k n v a b c e (-1) = (a + -n, b + -n, c + n, e + n) := by
  have hem : emptyB a b c e = false := emptyB_lt h1 h2
  unfold areaQ
  rw [if_neg (by rw [hem]; simp), if_pos hk]
  unfold growQ
  rw [hem, if_neg (by simp)]
  unfold normQ
  rw [w64_id (x := a - n) (by omega) (by omega), w64_id (x := b - n) (by omega) (by omega), w64_id (x := c + n) (by omega) (by omega), w64_id (x := e + n) (by omega) (by omega), emptyB_lt (by omega) (by omega), if_neg (by simp)]
  rfl
theorem area_off0 {a b c e : Int} (h1 : a < c) (h2 : b < e) (h3 : -1000000 ≤ a) (h4 : -1000000 ≤ b) (h5 : c ≤ 1000000) (h6 : e ≤ 1000000) : areaQ true 8 0 0 a b c e (-1) = (a + 0, b + 0, c + 0, e + 0) := by
  have hem : emptyB a b c e = false := emptyB_lt h1 h2
  unfold areaQ
  rw [if_neg (by rw [hem]; simp), if_neg (by decide), if_pos rfl]
  unfold moveQ
  have q1 : w64 (-1 * 0) = 0 := by decide
  rw [hem, if_neg (by simp)]
  unfold normQ
  rw [q1, w64_id (x := a + 0) (by omega) (by omega), w64_id (x := b + 0) (by omega) (by omega), w64_id (x := c + 0) (by omega) (by omega), w64_id (x := e + 0) (by omega) (by omega), emptyB_lt (by omega) (by omega), if_neg (by simp)]
section
variable (nF nM : Bool) (fs ms : List Int) (lF cF lM cM : Nat) (q0 q1 q2 q3 b0 b1 : Int)
set_option maxRecDepth 100000 in
theorem tgId (hM : ln nM lM ≤ (rw' nM ms).length) (hcM : ln nM lM ≤ ln nM cM) (hb : 0 ≤ b0 ∧ b0 ≤ 255) (hb1 : 0 ≤ b1 ∧ b1 ≤ 255) :
    TG Try.prog 2 Try.f12.ntmps cdId (startSt [askV nF nM lF cF lM cM q0 q1 q2 q3, .int .u8 b0, .int .u8 b1] (rH [rwI nF fs, rwI nM ms]) 2) (RetG Try.prog 2 Try.f12 fun u _ _ => u = .bool true) := by
  have s0 := smX_bd q0
  have s1 := smX_bd q1
  have s2 := smW_bd q0 q2
  have s3 := smW_bd q1 q3
  obtain ⟨n, hn, hen⟩ := mod3_ok hb
  obtain ⟨dv, hdv⟩ : ∃ dv, dv = 1 + b1 := ⟨_, rfl⟩
  have hd : 1 ≤ dv ∧ dv ≤ 256 := by omega
  have hed : w64 (1 + w64 b1) = dv := by rw [w64_id (x := b1) (by omega) (by omega), w64_id (x := 1 + b1) (by omega) (by omega), hdv]
  have hG : moG q0 q1 q2 q3 n = (smX q0 - n, smX q1 - n, smW q0 q2 + n, smW q1 q3 + n) := growQn (by omega) (by omega) (by omega) (by omega) (by omega) (by omega) (by omega)
  have hcut := cutN_eq (ln nM lM)
  have hr1 := id_1 nF nM fs ms n dv b1 (by omega) lF cF lM cM q0 q1 q2 q3 b0
  have hA1 : ∀ p ∈ id1 nM ms n dv b1 lM cM q0 q1 q2 q3 b0, p := by
    have hcap : capI (cutI (ln nM lM)) (ln nM cM) := by
      unfold capI
      rw [hcut.2]
      have : Int.ofNat (min 200 (ln nM lM)) = ((min 200 (ln nM lM) : Nat) : Int) := rfl
      rw [this]
      have h3 : Int.ofNat (ln nM cM) = (ln nM cM : Int) := rfl
      rw [h3]; omega
    have hk1 : 0 < kK n := Nat.mul_pos (by omega) (by omega)
    have hk2 : kK n ≤ 25 := Nat.mul_le_mul (show 2 * n + 1 ≤ 5 by omega) (show 2 * n + 1 ≤ 5 by omega)
    have ar : arQ (moG q0 q1 q2 q3 n) = (rcN (smX q0 - n) (smX q1 - n) (smW q0 q2 + n) (smW q1 q3 + n) : Int) := by
      rw [hG]
      exact (rcN_eq (a := smX q0 - n) (b := smX q1 - n) (c := smW q0 q2 + n) (e := smW q1 q3 + n) ⟨by omega, by omega⟩ ⟨by omega, by omega⟩ ⟨by omega, by omega⟩ ⟨by omega, by omega⟩ (by omega) (by omega)).symm
    have z1 : rcN (smX q0 - n) (smX q1 - n) (smW q0 q2 + n) (smW q1 q3 + n) ≤ 400 := rcN_20 (by omega) (by omega)
    have z2 : 0 < rcN (smX q0 - n) (smX q1 - n) (smW q0 q2 + n) (smW q1 q3 + n) := rcN_pos (emptyB_lt (by omega) (by omega))
    have zk : kI n = (kK n : Int) := rfl
    have zk2 : Int.ofNat (kK n / 2) = ((kK n / 2 : Nat) : Int) := rfl
    intro p hp
    simp only [id1, List.mem_cons, List.not_mem_nil, or_false] at hp
    rcases hp with rfl | rfl | rfl | rfl | rfl | rfl | rfl | rfl | rfl | rfl | rfl | rfl
    · rw [hen]
    · rw [zk]; omega
    · omega
    · rw [hed]
    · rw [zk, zk2]; omega
    · rw [rep1_len]; omega
    · exact hcap
    · exact hcap
    · rw [hcut.1]; omega
    · rw [hcut.1]; omega
    · rw [ar]; omega
    · rw [ar]; omega
  rw [hG] at hr1
  generalize hAA : smX q0 = a at s0 s2 hr1
  generalize hBB : smX q1 = b at s1 s3 hr1
  generalize hCC : smW q0 q2 = c at s2 hr1
  generalize hEE : smW q1 q3 = e at s3 hr1
  have m0 : m20 a := ⟨by omega, by omega⟩
  have m1 : m20 b := ⟨by omega, by omega⟩
  have m2 : m20 c := ⟨by omega, by omega⟩
  have m3 : m20 e := ⟨by omega, by omega⟩
  have x0 : m20 (a - n) := ⟨by omega, by omega⟩
  have x1 : m20 (b - n) := ⟨by omega, by omega⟩
  have x2 : m20 (c + n) := ⟨by omega, by omega⟩
  have x3 : m20 (e + n) := ⟨by omega, by omega⟩
  have hM8 : rcN a b c e ≤ 400 := rcN_20 (by omega) (by omega)
  have hM1 : 0 < rcN a b c e := rcN_pos (emptyB_lt (by omega) (by omega))
  have hN8 : rcN (a - n) (b - n) (c + n) (e + n) ≤ 400 := rcN_20 (by omega) (by omega)
  have ar : arQ (a - n, b - n, c + n, e + n) = (rcN (a - n) (b - n) (c + n) (e + n) : Int) := (rcN_eq x0 x1 x2 x3 (by omega) (by omega)).symm
  have hR : moR nM ms lM (a - n, b - n, c + n, e + n) = outR (imgQ (cutN (ln nM lM)) (rw' nM ms)) (rcN (a - n) (b - n) (c + n) (e + n)) := by
    unfold moR
    rw [ar, Int.toNat_natCast]
  rw [hR, ar, Int.toNat_natCast] at hr1
  have hlen : (outR (imgQ (cutN (ln nM lM)) (rw' nM ms)) (rcN (a - n) (b - n) (c + n) (e + n))).length = rcN (a - n) (b - n) (c + n) (e + n) * 4 := outR_len _ _
  have hop : ∀ i, i < rcN (a - n) (b - n) (c + n) (e + n) → Cln (pixQ (outR (imgQ (cutN (ln nM lM)) (rw' nM ms)) (rcN (a - n) (b - n) (c + n) (e + n))) (Int.ofNat i)) := fun i hi => by
    rw [outR_pix _ hi]; exact imgQ_cln _ _ _
  generalize hQQ : outR (imgQ (cutN (ln nM lM)) (rw' nM ms)) (rcN (a - n) (b - n) (c + n) (e + n)) = px at hr1 hlen hop
  refine TG_isN1 7 XId mo (by kernel_rfl) hr1 hA1 ?_
  clear hr1 hA1
  have hz : Int.ofNat n = (n : Int) := rfl
  show TG Try.prog 2 Try.f12.ntmps (tailN 7 cdId) (sI0 nF nM fs ms a b c e (a - n) (b - n) (c + n) (e + n) (rcN (a - n) (b - n) (c + n) (e + n)) px n dv b1) _
  -- the plain pixels
  have hidx : ∀ x y : Int, a ≤ x → x < c → b ≤ y → y < e → ∃ t : Nat, idxE (a - n) (b - n) (c + n) x y = Int.ofNat t ∧ t < rcN (a - n) (b - n) (c + n) (e + n) := fun x y g1 g2 g3 g4 => ⟨_, idx_nat x0 x1 x2 x3 (by omega) (by omega) (by omega) (by omega)⟩
  obtain ⟨p, hp⟩ : ∃ p : Nat → Q4, p = fun m => pixQ px (idxE (a - n) (b - n) (c + n) (a + Int.ofNat (m % (c - a).toNat)) (b + Int.ofNat (m / (c - a).toNat))) := ⟨_, rfl⟩
  have hpc : ∀ i, i < rcN a b c e → Cln (p i) := fun i hi => by
    obtain ⟨_, h1, h2⟩ := idx_ab m0 m1 m2 m3 hi
    have z1 : (0 : Int) ≤ Int.ofNat (i % (c - a).toNat) := Int.natCast_nonneg _
    have z2 : (0 : Int) ≤ Int.ofNat (i / (c - a).toNat) := Int.natCast_nonneg _
    obtain ⟨t, e1, e2⟩ := hidx _ _ (by omega) h1 (by omega) h2
    rw [hp]
    show Cln (pixQ px (idxE _ _ _ _ _))
    rw [e1]; exact hop t e2
  generalize hNN : rcN (a - n) (b - n) (c + n) (e + n) = N at *
  refine TG_isN1 1 XId mo (by kernel_rfl) (id_2 nF nM fs ms a b c e (a - n) (b - n) (c + n) (e + n) N px n dv b1) (by simp) ?_
  show TG Try.prog 2 Try.f12.ntmps tlId _ _
  refine TG_seq' (by kernel_rfl) ?_
  refine TG_isSeq XId mo anyR (by kernel_rfl) (by kernel_rfl) (id_3 nF nM fs ms a b c e (a - n) (b - n) (c + n) (e + n) N px n dv b1 0 true []) fun g hg _ => ?_
  rw [List.mem_singleton] at hg; subst hg
  refine ⟨by simp, fun s' hs' => TG_norm hs' ?_⟩
  refine TG_block (i := 0) (by kernel_rfl) (TG_mono (TG_grid (i1 := 1) (i2 := 2) (io := 0) (LY := [7, 10, 11, 9, 8, 2, 12, 13]) (LX := [7, 10, 11, 9, 8, 2, 12, 13, 14]) (fn := Try.f12) (F := 1000) (Hy := [(66, .split)]) (a := a) (b := b) (c := c) (e := e)
      (SY := fun m y => sIy nF nM fs ms a b c e (a - n) (b - n) (c + n) (e + n) N px n dv b1 m (plB (Nat.beq m 0) (outR p m)) y)
      (SX := fun m y x => sIx nF nM fs ms a b c e (a - n) (b - n) (c + n) (e + n) N px n dv b1 m (plB (Nat.beq m 0) (outR p m)) y x)
      XId mo (by kernel_rfl) (by omega) (by omega)
      (fun m y => id_y1 nF nM fs ms a b c e (a - n) (b - n) (c + n) (e + n) N px n dv b1 m _ _ y)
      (fun m y => id_y2 nF nM fs ms a b c e (a - n) (b - n) (c + n) (e + n) N px n dv b1 m _ _ y)
      (fun m y x => ⟨_, id_y3 nF nM fs ms a b c e (a - n) (b - n) (c + n) (e + n) N px n dv b1 m _ _ y x⟩)
      (fun i j hi hj => ?_) ⟨_, id_n nF nM fs ms a b c e (a - n) (b - n) (c + n) (e + n) N px n dv b1 0 true (outR p 0) b⟩) ?_)
  · have hI : Int.ofNat i = (i : Int) := rfl
    have hJ : Int.ofNat j = (j : Int) := rfl
    have htest : (a + Int.ofNat j < c) ↔ j < (c - a).toNat := by rw [hJ]; omega
    have hlt' : j < (c - a).toNat → i * (c - a).toNat + j < rcN a b c e := fun hjl => by
      have h7 := Nat.mul_le_mul_right (c - a).toNat (show i + 1 ≤ (e - b).toNat by omega)
      rw [Nat.add_mul, Nat.one_mul] at h7
      unfold rcN; omega
    have hpe : j < (c - a).toNat → p (i * (c - a).toNat + j) = pixQ px (idxE (a - n) (b - n) (c + n) (a + Int.ofNat j) (b + Int.ofNat i)) := fun hjl => by
      have e1 : (i * (c - a).toNat + j) % (c - a).toNat = j := by rw [Nat.mul_comm, Nat.mul_add_mod, Nat.mod_eq_of_lt hjl]
      have e2 : (i * (c - a).toNat + j) / (c - a).toNat = i := by rw [Nat.mul_comm, Nat.mul_add_div (by omega), Nat.div_eq_of_lt hjl, Nat.add_zero]
      rw [hp]
      show pixQ px (idxE _ _ _ (a + Int.ofNat ((i * (c - a).toNat + j) % (c - a).toNat)) (b + Int.ofNat ((i * (c - a).toNat + j) / (c - a).toNat))) = _
      rw [e1, e2]
    have hat : j < (c - a).toNat → ∀ q ∈ atA N px (idxE (a - n) (b - n) (c + n) (a + Int.ofNat j) (b + Int.ofNat i)), q := fun hjl q hq => by
      obtain ⟨t, e1, e2⟩ := hidx (a + Int.ofNat j) (b + Int.ofNat i) (by omega) (htest.2 hjl) (by omega) (by omega)
      rw [e1] at hq
      have et : (Int.ofNat t).toNat = t := rfl
      have zt : Int.ofNat t = (t : Int) := rfl
      simp only [atA, List.mem_cons, List.not_mem_nil, or_false] at hq
      rcases hq with rfl | rfl
      · have zl : Int.ofNat N = (N : Int) := rfl
        rw [zt, zl]; omega
      · rw [et]; omega
    have hup : upP (a + Int.ofNat j) (a + Int.ofNat j + 1) := upI (by rw [hJ]; omega) (by rw [hJ]; omega)
    show TG Try.prog 2 Try.f12.ntmps _ _ _
    cases hm : i * (c - a).toNat + j with
    | zero =>
      refine TG_is XId mo anyR (by kernel_rfl) (id_x0 nF nM fs ms a b c e (a - n) (b - n) (c + n) (e + n) N px n dv b1 (b + Int.ofNat i) (a + Int.ofNat j)) fun g hg hc => ?_
      simp only [List.mem_cons, List.not_mem_nil, or_false] at hg
      rcases hg with rfl | rfl
      · have hjl := htest.1 (of_decide_eq_true (hc _ (List.mem_singleton.2 rfl)))
        refine ⟨fun q hq => ?_, fun s' hs' => .inl ⟨hjl, rfl, _, _, [(6, .u8)], hs', ?_⟩⟩
        · rcases List.mem_append.1 hq with hq | hq
          · exact hat hjl q hq
          · rw [List.mem_singleton] at hq; subst hq; exact hup
        · rw [id_own]
          show _ = some (sIx nF nM fs ms a b c e (a - n) (b - n) (c + n) (e + n) N px n dv b1 1 (plB false (outA 0 [] (p 0))) _ _)
          have := hpe hjl
          rw [hm] at this
          rw [this]
      · have hge : ¬ j < (c - a).toNat := fun q => (of_decide_eq_false (hc _ (List.mem_singleton.2 rfl))) (htest.2 q)
        exact ⟨by simp, fun s' hs' => .inr ⟨by omega, rfl, _, hs'⟩⟩
    | succ m' =>
      have hr := id_xs nF nM fs ms a b c e (a - n) (b - n) (c + n) (e + n) N px n dv b1 (m' + 1) (outR p (m' + 1)) (b + Int.ofNat i) (a + Int.ofNat j)
      refine TG_is XId mo anyR (by kernel_rfl) hr fun g hg hc => ?_
      simp only [List.mem_cons, List.not_mem_nil, or_false] at hg
      rcases hg with rfl | rfl
      · have hjl := htest.1 (of_decide_eq_true (hc _ (List.mem_singleton.2 rfl)))
        have h9 := hlt' hjl
        refine ⟨fun q hq => ?_, fun s' hs' => .inl ⟨hjl, rfl, _, _, [], hs', ?_⟩⟩
        · rcases List.mem_append.1 hq with hq | hq
          · exact hat hjl q hq
          rcases List.mem_append.1 hq with hq | hq
          · exact cnA_ok (by omega) (by omega) (outR_len _ _) q hq
          · rw [List.mem_singleton] at hq; subst hq; exact hup
        · rw [ownS_nil]
          show _ = some (sIx nF nM fs ms a b c e (a - n) (b - n) (c + n) (e + n) N px n dv b1 (m' + 1 + 1) (plB false (outA (m' + 1) (outR p (m' + 1)) (p (m' + 1)))) _ _)
          have := hpe hjl
          rw [hm] at this
          rw [this]
      · have hge : ¬ j < (c - a).toNat := fun q => (of_decide_eq_false (hc _ (List.mem_singleton.2 rfl))) (htest.2 q)
        exact ⟨by simp, fun s' hs' => .inr ⟨by omega, rfl, _, hs'⟩⟩
  · rintro y s2 ⟨rfl, L, yy, hs2⟩
    rw [outOf_exit]
    simp only [andThen]
    refine TG_norm hs2 ?_
    have eM : (e - b).toNat * (c - a).toNat = rcN a b c e := rfl
    rw [eM]
    have hbq : Nat.beq (rcN a b c e) 0 = false := beq_pos hM1
    show TG Try.prog 2 Try.f12.ntmps enId (sIy nF nM fs ms a b c e (a - n) (b - n) (c + n) (e + n) N px n dv b1 (rcN a b c e) (plB (Nat.beq (rcN a b c e) 0) (outR p (rcN a b c e))) yy) _
    rw [hbq]
    have hol : (outR p (rcN a b c e)).length = rcN a b c e * 4 := outR_len _ _
    have hoq : ∀ i, i < rcN a b c e → pixQ (outR p (rcN a b c e)) (Int.ofNat i) = p i := fun i hi => outR_pix _ hi
    obtain ⟨h', n', hr'⟩ := id_7 nF nM fs ms a b c e (a - n) (b - n) (c + n) (e + n) N px n dv b1 (rcN a b c e) (outR p (rcN a b c e)) yy
    refine TG_ret XId mo _ (by kernel_rfl) hr' fun g hg _ => ?_
    rw [List.mem_singleton] at hg; subst hg
    refine ⟨fun q hq => ?_, _, _, _, rfl, rfl⟩
    have hem : emptyB a b c e = false := emptyB_lt (by omega) (by omega)
    have herr : ∀ {k r d v : Int} {lK : Nat} {ks : List Int} {lC : Nat} {cs : List Int} {p0 p1 p2 p3 : Int}, validB k r d v lK ks lC cs = true → areaQ true k r v a b c e (-1) = (a + p0, b + p1, c + p2, e + p3) → (-n ≤ p0 ∧ -n ≤ p1 ∧ p2 ≤ n ∧ p3 ≤ n) → apErr (a - n) (b - n) (c + n) (e + n) a b c e N k r d v lK ks lC cs = 0 := fun hv hA hpp =>
      errC_ok hv hA x0 x1 x2 x3 m0 m1 m2 m3 (by omega) (by omega) (by omega) (by omega) hNN.symm (by omega) (by omega) (by omega) (by omega) (by omega)
    -- what the filters make
    have hkd : ∀ (kd : Kd) (k r d v : Int) (lC : Nat) (ks cs : List Int) (j : Nat), (∀ i, i < rcN a b c e → wix (a - n) (b - n) (c + n) r v (a + Int.ofNat (i % (c - a).toNat)) (b + Int.ofNat (i / (c - a).toNat)) kd j = idxE (a - n) (b - n) (c + n) (a + Int.ofNat (i % (c - a).toNat)) (b + Int.ofNat (i / (c - a).toNat))) →
        (∀ g : Nat → Q4, Cln (g j) → clQ (kdF k r d v ks lC cs kd g) = g j) → kdOf k = kd → ∀ i, i < rcN a b c e → pixQ (apO (a - n) (b - n) (c + n) a b c e px k r d v ks lC cs) (Int.ofNat i) = pixQ (outR p (rcN a b c e)) (Int.ofNat i) := fun kd k r d v lC ks cs j hw hcl hk i hi => by
      have e1 : apO (a - n) (b - n) (c + n) a b c e px k r d v ks lC cs = outR (apP (kdOf k) false false (a - n) (b - n) (c + n) a b c k r d v lC ks cs px) (rcN a b c e) := rfl
      have e2 : p i = pixQ px (idxE (a - n) (b - n) (c + n) (a + Int.ofNat (i % (c - a).toNat)) (b + Int.ofNat (i / (c - a).toNat))) := by rw [hp]
      have hg : (fun m => pixQ px (wix (a - n) (b - n) (c + n) r v (a + Int.ofNat (i % (c - a).toNat)) (b + Int.ofNat (i / (c - a).toNat)) kd m)) j = p i := by
        show pixQ px (wix _ _ _ _ _ _ _ _ _) = _
        rw [hw i hi, e2]
      rw [e1, outR_pix _ hi, hoq i hi, apP_eq, hk]
      have h3 := hcl (fun m => pixQ px (wix (a - n) (b - n) (c + n) r v (a + Int.ofNat (i % (c - a).toNat)) (b + Int.ofNat (i / (c - a).toNat)) kd m)) (Eq.mp (congrArg Cln hg.symm) (hpc i hi))
      exact h3.trans hg
    have hsm : ∀ (w : List Int), w.length = rcN a b c e * 4 → (∀ i, i < rcN a b c e → pixQ w (Int.ofNat i) = pixQ (outR p (rcN a b c e)) (Int.ofNat i)) → ∀ q ∈ smOk a b c e a b c e (rcN a b c e) (rcN a b c e) w (outR p (rcN a b c e)), q := fun w hw1 hw2 q hq => by
      simp only [smOk, List.mem_cons, List.not_mem_nil, or_false] at hq
      rcases hq with rfl | rfl | rfl | rfl | rfl | rfl
      · first | trivial | exact ⟨rfl, rfl, rfl, rfl⟩
      · first | trivial | rfl
      · omega
      · omega
      · omega
      · exact hw2
    have hS : ∀ (i : Nat) (k r d v : Int) (lK : Nat) (ks : List Int) (lC : Nat) (cs : List Int), i < 6 → (∀ q ∈ fa0 lK ks lC cs, q) → apErr (a - n) (b - n) (c + n) (e + n) a b c e N k r d v lK ks lC cs = 0 → (∀ i, i < rcN a b c e → pixQ (apO (a - n) (b - n) (c + n) a b c e px k r d v ks lC cs) (Int.ofNat i) = pixQ (outR p (rcN a b c e)) (Int.ofNat i)) →
        ∀ q ∈ idS (a - n) (b - n) (c + n) (e + n) a b c e N px (rcN a b c e) (outR p (rcN a b c e)) i k r d v lK ks lC cs, q := fun i k r d v lK ks lC cs hi hfa he hsame q hq => by
      unfold idS at hq
      rcases List.mem_cons.1 hq with rfl | hq
      · have : Int.ofNat i = (i : Int) := rfl
        rw [this]; omega
      rcases List.mem_append.1 hq with hq | hq
      · unfold asF at hq
        rcases List.mem_append.1 hq with hq | hq
        · exact hfa q hq
        · simp only [List.mem_cons, List.not_mem_nil, or_false] at hq
          rcases hq with rfl | rfl | rfl
          · omega
          · exact he
          · exact hem
      rcases List.mem_append.1 hq with hq | hq
      · exact hsm _ (outR_len _ _) hsame q hq
      · simp only [List.mem_cons, List.not_mem_nil, or_false] at hq
        rcases hq with rfl | rfl
        · exact pBq_f rfl
        · exact pBq_f rfl
    have hfa00 : ∀ q ∈ fa0 0 [] 0 [], q := by
      simp only [fa0, List.mem_cons, List.not_mem_nil, or_false]
      rintro q (rfl | rfl | rfl | rfl)
      · exact Nat.le_refl 0
      · exact Nat.zero_le _
      · exact Nat.le_refl 0
      · exact Nat.zero_le _
    have hw0 : ∀ i, i < rcN a b c e → winI (a - n) (b - n) (c + n) (a + Int.ofNat (i % (c - a).toNat)) (b + Int.ofNat (i / (c - a).toNat)) 0 0 = idxE (a - n) (b - n) (c + n) (a + Int.ofNat (i % (c - a).toNat)) (b + Int.ofNat (i / (c - a).toNat)) := fun i _ => by
      show idxE _ _ _ (_ - 0 + 0) (_ - 0 + 0) = _
      rw [Int.sub_zero, Int.sub_zero, Int.add_zero, Int.add_zero]
    have herr6 : apErr a b c e a b c e (rcN a b c e) 6 0 0 0 0 [] 0 [] = 0 := errC_ok valid_inv (area_pt (by omega) (by omega) (by omega)) m0 m1 m2 m3 m0 m1 m2 m3 (by omega) (by omega) (by omega) (by omega) rfl (by omega) (by omega) (by omega) (by omega) (by omega)
    have hiv : ∀ (w : List Int) (i : Nat), i < rcN a b c e → Cln (pixQ w (Int.ofNat i)) → pixQ (apK 6 0 a b c a b c e w) (Int.ofNat i) = iv2 (pixQ w (Int.ofNat i)) := fun w i hi hcl => by
      have e1 : apK 6 0 a b c a b c e w = outR (apP (kdOf 6) false false a b c a b c 6 0 0 0 0 [] [] w) (rcN a b c e) := rfl
      have h1 : idxE a b c (a + Int.ofNat (i % (c - a).toNat)) (b + Int.ofNat (i / (c - a).toNat)) = Int.ofNat i := (idx_ab m0 m1 m2 m3 hi).1
      have e0 : pixQ w (wix a b c 0 0 (a + Int.ofNat (i % (c - a).toNat)) (b + Int.ofNat (i / (c - a).toNat)) (kdOf 6) 0) = pixQ w (Int.ofNat i) := by
        show pixQ w (idxE a b c _ _) = _
        rw [h1]
      rw [e1, outR_pix _ hi, apP_eq]
      have h2 := iv_eq (k := 6) (r := 0) (d := 0) (v := 0) (ks := []) (lC := 0) (cs := []) (g := fun m => pixQ w (wix a b c 0 0 (a + Int.ofNat (i % (c - a).toNat)) (b + Int.ofNat (i / (c - a).toNat)) (kdOf 6) m)) (by show Cln (pixQ w (wix a b c 0 0 _ _ (kdOf 6) 0)); rw [e0]; exact hcl)
      exact h2.trans (congrArg iv2 e0)
    unfold id7 at hq
    rcases List.mem_append.1 hq with hq | hq
    · rw [List.mem_singleton] at hq; subst hq; rw [hed]
    rcases List.mem_append.1 hq with hq | hq
    · refine hS 0 1 (Int.ofNat n) dv 0 (kK n) (kerL n dv) 0 [] (by omega) ?_ (herr (valid_cv hn hd) (area_w (by decide) (by omega) (by omega) (by omega) (by omega) (by omega) (by omega) (by omega) (by omega)) (by omega)) ?_ q hq
      · have hk2 : kK n ≤ 25 := Nat.mul_le_mul (show 2 * n + 1 ≤ 5 by omega) (show 2 * n + 1 ≤ 5 by omega)
        simp only [fa0, List.mem_cons, List.not_mem_nil, or_false]
        rintro q (rfl | rfl | rfl | rfl)
        · rw [ker_len]; exact Nat.le_refl _
        · omega
        · exact Nat.le_refl 0
        · exact Nat.zero_le _
      · refine hkd .cv 1 (Int.ofNat n) dv 0 0 (kerL n dv) [] (kK n / 2) (fun i _ => ?_) (fun g hg => cv_id hd hg rfl) rfl
        show winI _ _ _ _ _ n (kK n / 2) = _
        unfold winI
        have e1 : kK n / 2 % (2 * n + 1) = n ∧ kK n / 2 / (2 * n + 1) = n := by
          have : n = 0 ∨ n = 1 ∨ n = 2 := by omega
          rcases this with rfl | rfl | rfl <;> decide
        rw [e1.1, e1.2]
        have e2 : ∀ x : Int, x - Int.ofNat n + Int.ofNat n = x := fun x => by omega
        rw [e2, e2]
    rcases List.mem_append.1 hq with hq | hq
    · exact hS 1 2 0 0 0 0 [] 0 [] (by omega) hfa00 (herr (by decide) (area_w (by decide) (by omega) (by omega) (by omega) (by omega) (by omega) (by omega) (by omega) (by omega)) (by omega)) (hkd .rk 2 0 0 0 0 [] [] 0 hw0 (fun g hg => rk_id hg) rfl) q hq
    rcases List.mem_append.1 hq with hq | hq
    · exact hS 2 3 0 0 0 0 [] 0 [] (by omega) hfa00 (herr (by decide) (area_w (by decide) (by omega) (by omega) (by omega) (by omega) (by omega) (by omega) (by omega) (by omega)) (by omega)) (hkd .rk 3 0 0 0 0 [] [] 0 hw0 (fun g hg => rk_id hg) rfl) q hq
    rcases List.mem_append.1 hq with hq | hq
    · exact hS 3 4 0 0 0 0 [] 0 [] (by omega) hfa00 (herr (by decide) (area_w (by decide) (by omega) (by omega) (by omega) (by omega) (by omega) (by omega) (by omega) (by omega)) (by omega)) (hkd .rk 4 0 0 0 0 [] [] 0 hw0 (fun g hg => rk_id hg) rfl) q hq
    rcases List.mem_append.1 hq with hq | hq
    · refine hS 4 8 0 0 0 0 [] 0 [] (by omega) hfa00 (herr (by decide) (area_off0 (by omega) (by omega) (by omega) (by omega) (by omega) (by omega)) (by omega)) (hkd .off 8 0 0 0 0 [] [] 0 (fun i _ => ?_) (fun g hg => off_id hg) rfl) q hq
      show idxE _ _ _ (w64 (_ - 0)) (w64 (_ - 0)) = _
      rw [idxE_wrap, Int.sub_zero, Int.sub_zero]
    rcases List.mem_append.1 hq with hq | hq
    · refine hS 5 5 0 0 0 0 [] 257 lineL (by omega) ?_ (herr ton_valid (area_pt (by omega) (by omega) (by omega)) (by omega)) (hkd .ton 5 0 0 0 257 [] lineL 0 (fun i _ => rfl) (fun g hg => ton_id hg) rfl) q hq
      have hl : lineL.length = 257 := by kernel_rfl
      simp only [fa0, List.mem_cons, List.not_mem_nil, or_false]
      rintro q (rfl | rfl | rfl | rfl)
      · exact Nat.le_refl 0
      · exact Nat.zero_le _
      · rw [hl]; exact Nat.le_refl _
      · omega
    rcases List.mem_append.1 hq with hq | hq
    · exact asK_ok (by omega) herr6 hem q hq
    have hl1 : (apK 6 0 a b c a b c e (outR p (rcN a b c e))).length = rcN a b c e * 4 := outR_len _ _
    rcases List.mem_append.1 hq with hq | hq
    · exact asK_ok (by omega) herr6 hem q hq
    rcases List.mem_append.1 hq with hq | hq
    · refine hsm _ (outR_len _ _) (fun i hi => ?_) q hq
      have c1 : Cln (pixQ (outR p (rcN a b c e)) (Int.ofNat i)) := by rw [hoq i hi]; exact hpc i hi
      have c2 := hiv _ i hi c1
      have c3 := hiv (apK 6 0 a b c a b c e (outR p (rcN a b c e))) i hi (by rw [c2]; exact iv2_cln c1)
      rw [c2, iv2_iv2 c1] at c3
      exact c3
    · simp only [List.mem_cons, List.not_mem_nil, or_false, or_self] at hq
      subst hq; exact pBq_t rfl
end
end Go.Proofs.Ytadejpmecljjpaa
