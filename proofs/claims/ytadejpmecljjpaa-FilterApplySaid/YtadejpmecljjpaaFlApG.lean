/- FilterApply: the reference's pixel. No conditions. -/
import Derived.Test.YtadejpmecljjpaaFlApD
set_option linter.unusedVariables false
set_option linter.unusedSimpArgs false
set_option linter.unusedSectionVars false
namespace Go.Proofs.Ytadejpmecljjpaa
open Go Go.Eng
noncomputable abbrev WV5 : CtrW := addW 76 (readW specOr) WV4
theorem WV5_ok : CtrWOk Try.prog WV5 := addW_ok (readW_ok one_Or) WV4_ok
noncomputable abbrev csV5 : CallS := callX Try.prog WV5 H0 1000 40
noncomputable abbrev XV5 : CX Try.prog := CX.of mo po WV5_ok H0 1000 40
noncomputable abbrev cdPi : Code := bodyOf Try.f51
def u8r (px : List Int) : Prop := ∀ t, 0 ≤ px.getD t 0 ∧ px.getD t 0 ≤ 255
section
variable (k : Int) (nK nC : Bool) (ks cs px : List Int) (X0 Y0 X1 Y1 x y r d v : Int) (lK cK zK lC cC zC lP cP zP : Nat)
abbrev piS : St := startSt [FV k r (slK nK 0 lK cK zK 1) d v (slK nC 1 lC cC zC 1), iV5 X0 Y0 X1 Y1 (slK false 2 lP cP zP 4), .int .i64 x, .int .i64 y] (rH [rwK nK .i64 ks, rwK nC .i64 cs, rwK false .u8 px]) 3
abbrev piH : Tr O := hL (rwL nK 0 .i64 ks ++ (rwL nC 1 .i64 cs ++ [(2, .ints .u8 px)]))
abbrev rWa : List Prop := (0 ≤ r) :: (wiOk X0 Y0 X1 x y r.toNat lP px ++ atA lP px (idxE X0 Y0 X1 x y))
abbrev rWn : Nat := sq (Int.ofNat r.toNat)
abbrev rWx : List Int := wiR X0 Y0 X1 x y r.toNat px
abbrev rPx (j : Nat) : Int := pq px (idxE X0 Y0 X1 x y) j
theorem pi_8 : RunIs Try.prog csV5 [] 1000 3 Try.f51 [] cdPi (piS 8 nK nC ks cs px X0 Y0 X1 Y1 x y r d v lK cK zK lC cC zC lP cP zP) []
    [([], atA lP px (offI X0 Y0 X1 x y r v), .ret (mkV (pixQ px (offI X0 Y0 X1 x y r v))) (piH nK nC ks cs px) 3)] := by
  unfold RunIs; cases nK <;> cases nC <;> kernel_rfl
theorem pi_1 : RunIs Try.prog csV5 [] 1000 3 Try.f51 [] cdPi (piS 1 false nC ks cs px X0 Y0 X1 Y1 x y r d v lK cK zK lC cC zC lP cP zP) []
    [([], rWa px X0 Y0 X1 x y r lP ++ coOk lK ks (rWx px X0 Y0 X1 x y r) (rWn r), .ret (coR d ks (rWx px X0 Y0 X1 x y r) (rWn r)) (piH false nC ks cs px) 3)] := by
  unfold RunIs; cases nC <;> kernel_rfl
abbrev rk2 : Int := w64 ((Int.ofNat (rWn r)).tdiv 2)
abbrev rk4 : Int := w64 (Int.ofNat (rWn r) - 1)
theorem pi_2 : RunIs Try.prog csV5 [] 1000 3 Try.f51 [] cdPi (piS 2 nK nC ks cs px X0 Y0 X1 Y1 x y r d v lK cK zK lC cC zC lP cP zP) []
    [([], rWa px X0 Y0 X1 x y r lP ++ ((2 : Int) ≠ 0) :: orOk (rWx px X0 Y0 X1 x y r) (rWn r) (rk2 r), .ret (orR (rWx px X0 Y0 X1 x y r) (rWn r) (rk2 r)) (piH nK nC ks cs px) 3)] := by
  unfold RunIs; cases nK <;> cases nC <;> kernel_rfl
theorem pi_3 : RunIs Try.prog csV5 [] 1000 3 Try.f51 [] cdPi (piS 3 nK nC ks cs px X0 Y0 X1 Y1 x y r d v lK cK zK lC cC zC lP cP zP) []
    [([], rWa px X0 Y0 X1 x y r lP ++ orOk (rWx px X0 Y0 X1 x y r) (rWn r) 0, .ret (orR (rWx px X0 Y0 X1 x y r) (rWn r) 0) (piH nK nC ks cs px) 3)] := by
  unfold RunIs; cases nK <;> cases nC <;> kernel_rfl
theorem pi_4 : RunIs Try.prog csV5 [] 1000 3 Try.f51 [] cdPi (piS 4 nK nC ks cs px X0 Y0 X1 Y1 x y r d v lK cK zK lC cC zC lP cP zP) []
    [([], rWa px X0 Y0 X1 x y r lP ++ orOk (rWx px X0 Y0 X1 x y r) (rWn r) (rk4 r), .ret (orR (rWx px X0 Y0 X1 x y r) (rWn r) (rk4 r)) (piH nK nC ks cs px) 3)] := by
  unfold RunIs; cases nK <;> cases nC <;> kernel_rfl
abbrev toA : List Prop := [curveB lC cs = true, lC ≤ cs.length, lC ≤ 1000]
theorem pi_5 : ∃ L, RunIs Try.prog csV5 [] 1000 3 Try.f51 [] cdPi (piS 5 nK false ks cs px X0 Y0 X1 Y1 x y r d v lK cK zK lC cC zC lP cP zP) L
    [([], rWa px X0 Y0 X1 x y r lP ++ (toA cs lC ++ (toA cs lC ++ toA cs lC)), .ret (mkP (tonC cs lC (rPx px X0 Y0 X1 x y 0)) (tonC cs lC (rPx px X0 Y0 X1 x y 1)) (tonC cs lC (rPx px X0 Y0 X1 x y 2)) (rPx px X0 Y0 X1 x y 3)) (piH nK false ks cs px) 3)] := by
  cases nK
  · exact RunIs.of (by kernel_rfl) (by kernel_rfl) (by kernel_rfl)
  · exact RunIs.of (by kernel_rfl) (by kernel_rfl) (by kernel_rfl)
abbrev iW (p : Int) : Int := IntKind.u8.wrap (255 - p)
theorem pi_6 : RunIs Try.prog csV5 [] 1000 3 Try.f51 [] cdPi (piS 6 nK nC ks cs px X0 Y0 X1 Y1 x y r d v lK cK zK lC cC zC lP cP zP) []
    [([], rWa px X0 Y0 X1 x y r lP, .ret (mkP (iW (rPx px X0 Y0 X1 x y 0)) (iW (rPx px X0 Y0 X1 x y 1)) (iW (rPx px X0 Y0 X1 x y 2)) (rPx px X0 Y0 X1 x y 3)) (piH nK nC ks cs px) 3)] := by
  unfold RunIs; cases nK <;> cases nC <;> kernel_rfl
abbrev thC : Bool := decide (w64 (w64 (w64 (rPx px X0 Y0 X1 x y 0) + w64 (rPx px X0 Y0 X1 x y 1)) + w64 (rPx px X0 Y0 X1 x y 2)) ≥ w64 (3 * v))
theorem pi_7 : RunIs Try.prog csV5 [(107, .split)] 1000 3 Try.f51 [] cdPi (piS 7 nK nC ks cs px X0 Y0 X1 Y1 x y r d v lK cK zK lC cC zC lP cP zP) []
    [([(thC px X0 Y0 X1 x y v, true)], rWa px X0 Y0 X1 x y r lP, .ret (mkP 255 255 255 (rPx px X0 Y0 X1 x y 3)) (piH nK nC ks cs px) 3),
     ([(thC px X0 Y0 X1 x y v, false)], rWa px X0 Y0 X1 x y r lP, .ret (mkP 0 0 0 (rPx px X0 Y0 X1 x y 3)) (piH nK nC ks cs px) 3)] := by
  unfold RunIs; cases nK <;> cases nC <;> kernel_rfl
end
section
variable {k : Int} {nK nC : Bool} {ks cs px : List Int} {X0 Y0 X1 Y1 x y r d v : Int} {lK cK zK lC cC zC lP cP zP : Nat}
theorem q4_rng (hu : u8r px) (i : Int) (j : Nat) : 0 ≤ pq px i j ∧ pq px i j ≤ 255 := hu _
theorem u8_same {p : Int} (h : 0 ≤ p ∧ p ≤ 255) : u8w (w64 p) = p := by rw [w64_u8 h, u8w_u8 h]
theorem wR_len : (rWx px X0 Y0 X1 x y r).length = rWn r * 4 := outR_len _ _
theorem wR_pix {i : Nat} (h : i < rWn r) : pixQ (rWx px X0 Y0 X1 x y r) (Int.ofNat i) = pixQ px (winI X0 Y0 X1 x y r.toNat i) := outR_pix _ h
theorem wN_le (h : 0 ≤ r ∧ r ≤ 3) : 0 < rWn r ∧ rWn r ≤ 49 := by
  have : r = 0 ∨ r = 1 ∨ r = 2 ∨ r = 3 := by omega
  rcases this with rfl | rfl | rfl | rfl <;> decide
structure PiOk (k : Int) (ks cs px : List Int) (X0 Y0 X1 x y r d v : Int) (lK lC lP : Nat) : Prop where
  va : validB k r d v lK ks lC cs = true
  u8 : u8r px
  bx : -1500000 ≤ x ∧ x ≤ 1500000
  bY : -1500000 ≤ y ∧ y ≤ 1500000
  lk : lK ≤ ks.length
  lc : lC ≤ cs.length ∧ lC ≤ 1000
  kd : ∀ p ∈ kdOk X0 Y0 X1 lP px k r v lK ks lC cs x y (kdOf k), p
theorem win_ok (hx : -1500000 ≤ x ∧ x ≤ 1500000) (hy : -1500000 ≤ y ∧ y ≤ 1500000) (h0 : 0 ≤ r) (h : WinOk X0 Y0 X1 x y r.toNat lP px) : ∀ p ∈ rWa px X0 Y0 X1 x y r lP, p := by
  intro p hp
  rcases List.mem_cons.1 hp with rfl | hp
  · exact h0
  rcases List.mem_append.1 hp with hp | hp
  · simp only [wiOk, List.mem_cons, List.not_mem_nil, or_false] at hp
    rcases hp with rfl | rfl | rfl | rfl
    · exact h.r
    · exact hx
    · exact hy
    · exact fun m hm => h.at hm
  · have := h.at (m := r.toNat * (2 * r.toNat + 1) + r.toNat) (by
      have := Nat.mul_le_mul_right (2 * r.toNat + 1) (show r.toNat + 1 ≤ 2 * r.toNat + 1 by omega)
      rw [Nat.add_mul, Nat.one_mul] at this; omega)
    rw [winI_ab _ _ _ _ _ _ _ _ (by omega)] at this
    rw [show x - Int.ofNat r.toNat + Int.ofNat r.toNat = x by omega, show y - Int.ofNat r.toNat + Int.ofNat r.toNat = y by omega] at this
    exact this p hp
theorem win_one (h : ∀ p ∈ atA lP px (idxE X0 Y0 X1 x y), p) (hx : -1500000 ≤ x ∧ x ≤ 1500000) (hy : -1500000 ≤ y ∧ y ≤ 1500000) : ∀ p ∈ rWa px X0 Y0 X1 x y 0 lP, p := by
  intro p hp
  rcases List.mem_cons.1 hp with rfl | hp
  · exact Int.le_refl 0
  rcases List.mem_append.1 hp with hp | hp
  · simp only [wiOk, List.mem_cons, List.not_mem_nil, or_false] at hp
    rcases hp with rfl | rfl | rfl | rfl
    · decide
    · exact hx
    · exact hy
    · intro m hm
      have hm0 : m = 0 := by have : sq (Int.ofNat (0 : Int).toNat) = 1 := rfl; omega
      subst hm0
      have e : winI X0 Y0 X1 x y (0 : Int).toNat 0 = idxE X0 Y0 X1 x y := by
        show idxE X0 Y0 X1 (x - 0 + 0) (y - 0 + 0) = _
        rw [Int.sub_zero, Int.add_zero, Int.sub_zero, Int.add_zero]
      rw [e]; exact h
  · exact h p hp
theorem co_val : coR d ks (rWx px X0 Y0 X1 x y r) (rWn r) = mkV (kdQ X0 Y0 X1 px k r d v ks lC cs x y .cv) := by
  have e : rWn r = sq r := rfl
  rw [kdQ_eq]
  show mkV (cvQ d (cvF ks _ (rWn r))) = mkV (cvQ d (cvF ks _ (sq r)))
  rw [cvF_congr (g' := fun i => pixQ px (winI X0 Y0 X1 x y r.toNat i)) (rWn r) fun i hi => wR_pix hi]
  rfl
theorem or_val (hu : u8r px) {rk : Int} (he : rk.toNat = rkI k (sq r)) : orR (rWx px X0 Y0 X1 x y r) (rWn r) rk = mkV (kdQ X0 Y0 X1 px k r d v ks lC cs x y .rk) := by
  have e : rWn r = sq r := rfl
  have hm := sq_pos r
  rw [kdQ_eq]
  show mkV (rkO' rk _ (sq r)) = mkV (rkC k (·.1) _ (sq r), rkC k (·.2.1) _ (sq r), rkC k (·.2.2.1) _ (sq r), rkC k (·.2.2.2) _ (sq r))
  have hc : ∀ f : Q4 → Int, chL f (fun i => pixQ (rWx px X0 Y0 X1 x y r) (Int.ofNat i)) (sq r) = chL f (fun m => pixQ px (wix X0 Y0 X1 r v x y .rk m)) (sq r) := fun f =>
    List.map_congr_left fun i hi => congrArg f (wR_pix (List.mem_range.1 hi))
  rw [rkC_ch hm (f := (·.1)) fun i _ => q4_rng hu _ 0, rkC_ch hm (f := (·.2.1)) fun i _ => q4_rng hu _ 1, rkC_ch hm (f := (·.2.2.1)) fun i _ => q4_rng hu _ 2, rkC_ch hm (f := (·.2.2.2)) fun i _ => q4_rng hu _ 3]
  unfold rkO'
  rw [hc, hc, hc, hc, he]
theorem or_asks (hr : 0 ≤ r ∧ r ≤ 3) {rk : Int} (h : 0 ≤ rk ∧ rk < (rWn r : Int)) : ∀ p ∈ orOk (rWx px X0 Y0 X1 x y r) (rWn r) rk, p := by
  obtain ⟨h1, h2⟩ := wN_le hr
  intro p hp
  simp only [orOk, List.mem_cons, List.not_mem_nil, or_false] at hp
  rcases hp with rfl | rfl | rfl | rfl
  · exact h1
  · rw [wR_len]; exact Nat.le_refl _
  · omega
  · exact h
theorem tgPi (hnK : nK = true → lK = 0 ∧ ks = []) (hnC : nC = true → lC = 0 ∧ cs = []) (h : PiOk k ks cs px X0 Y0 X1 x y r d v lK lC lP) :
    TG Try.prog 3 Try.f51.ntmps cdPi (piS k nK nC ks cs px X0 Y0 X1 Y1 x y r d v lK cK zK lC cC zC lP cP zP) (RetG Try.prog 3 Try.f51 fun u _ _ => u = mkV (kdQ X0 Y0 X1 px k r d v ks lC cs x y (kdOf k))) := by
  have hv := h.va
  have hkd := h.kd
  rcases kinds k with rfl | rfl | rfl | rfl | rfl | rfl | rfl | rfl | q
  · have hr : 0 ≤ r ∧ r ≤ 3 := by rcases validK hv with ⟨_, g, _⟩ | ⟨g, _⟩ | ⟨g, _⟩ | ⟨g, _⟩ <;> first | exact g | omega
    have hk0 : kdOf 1 = .cv := rfl
    rw [hk0] at hkd ⊢
    have w1 : WinOk X0 Y0 X1 x y r.toNat lP px := hkd _ (by simp [kdOk])
    have w2 : sq r ≤ lK := hkd _ (by simp [kdOk])
    obtain ⟨n1, n2⟩ := wN_le hr
    have hn : nK = false := by
      cases nK with
      | false => rfl
      | true => have := (hnK rfl).1; have := sq_pos r; omega
    subst hn
    refine TG_ret XV5 mo _ (by kernel_rfl) (pi_1 nC ks cs px X0 Y0 X1 Y1 x y r d v lK cK zK lC cC zC lP cP zP) fun g hg _ => ?_
    rw [List.mem_singleton] at hg; subst hg
    refine ⟨fun p hp => ?_, _, _, _, rfl, co_val⟩
    rcases List.mem_append.1 hp with hp | hp
    · exact win_ok h.bx h.bY hr.1 w1 p hp
    · simp only [coOk, List.mem_cons, List.not_mem_nil, or_false] at hp
      rcases hp with rfl | rfl | rfl | rfl
      · exact w2
      · exact h.lk
      · rw [wR_len]; exact Nat.le_refl _
      · omega
  · have hr : 0 ≤ r ∧ r ≤ 3 := by rcases validK hv with ⟨g, _, _⟩ | ⟨_, g⟩ | ⟨g, _⟩ | ⟨g, _⟩ <;> first | exact g | omega
    have hk0 : kdOf 2 = .rk := rfl
    rw [hk0] at hkd ⊢
    have w1 : WinOk X0 Y0 X1 x y r.toNat lP px := hkd _ (by simp [kdOk])
    obtain ⟨n1, n2⟩ := wN_le hr
    have e0 : Int.ofNat (rWn r) = (rWn r : Int) := rfl
    have e1 : (Int.ofNat (rWn r)).tdiv 2 = ((rWn r / 2 : Nat) : Int) := rfl
    have e2 : rk2 r = ((rWn r / 2 : Nat) : Int) := by unfold rk2; rw [e1]; exact w64_id (by omega) (by omega)
    refine TG_ret XV5 mo _ (by kernel_rfl) (pi_2 nK nC ks cs px X0 Y0 X1 Y1 x y r d v lK cK zK lC cC zC lP cP zP) fun g hg _ => ?_
    rw [List.mem_singleton] at hg; subst hg
    refine ⟨fun p hp => ?_, _, _, _, rfl, or_val h.u8 (by rw [e2]; rfl)⟩
    rcases List.mem_append.1 hp with hp | hp
    · exact win_ok h.bx h.bY hr.1 w1 p hp
    rcases List.mem_cons.1 hp with rfl | hp
    · decide
    · exact or_asks hr (by rw [e2]; omega) p hp
  · have hr : 0 ≤ r ∧ r ≤ 3 := by rcases validK hv with ⟨g, _, _⟩ | ⟨_, g⟩ | ⟨g, _⟩ | ⟨g, _⟩ <;> first | exact g | omega
    have hk0 : kdOf 3 = .rk := rfl
    rw [hk0] at hkd ⊢
    have w1 : WinOk X0 Y0 X1 x y r.toNat lP px := hkd _ (by simp [kdOk])
    obtain ⟨n1, n2⟩ := wN_le hr
    refine TG_ret XV5 mo _ (by kernel_rfl) (pi_3 nK nC ks cs px X0 Y0 X1 Y1 x y r d v lK cK zK lC cC zC lP cP zP) fun g hg _ => ?_
    rw [List.mem_singleton] at hg; subst hg
    refine ⟨fun p hp => ?_, _, _, _, rfl, or_val h.u8 rfl⟩
    rcases List.mem_append.1 hp with hp | hp
    · exact win_ok h.bx h.bY hr.1 w1 p hp
    · exact or_asks hr (by omega) p hp
  · have hr : 0 ≤ r ∧ r ≤ 3 := by rcases validK hv with ⟨g, _, _⟩ | ⟨_, g⟩ | ⟨g, _⟩ | ⟨g, _⟩ <;> first | exact g | omega
    have hk0 : kdOf 4 = .rk := rfl
    rw [hk0] at hkd ⊢
    have w1 : WinOk X0 Y0 X1 x y r.toNat lP px := hkd _ (by simp [kdOk])
    obtain ⟨n1, n2⟩ := wN_le hr
    have e0 : Int.ofNat (rWn r) = (rWn r : Int) := rfl
    have e2 : rk4 r = ((rWn r - 1 : Nat) : Int) := by
      unfold rk4; rw [e0, w64_id (by omega) (by omega)]; omega
    refine TG_ret XV5 mo _ (by kernel_rfl) (pi_4 nK nC ks cs px X0 Y0 X1 Y1 x y r d v lK cK zK lC cC zC lP cP zP) fun g hg _ => ?_
    rw [List.mem_singleton] at hg; subst hg
    refine ⟨fun p hp => ?_, _, _, _, rfl, or_val h.u8 (by rw [e2]; rfl)⟩
    rcases List.mem_append.1 hp with hp | hp
    · exact win_ok h.bx h.bY hr.1 w1 p hp
    · exact or_asks hr (by rw [e2]; omega) p hp
  · have hr : r = 0 := by rcases validK hv with ⟨g, _, _⟩ | ⟨g, _⟩ | ⟨_, g⟩ | ⟨g, _⟩ <;> first | exact g | omega
    subst hr
    have hk0 : kdOf 5 = .ton := rfl
    rw [hk0] at hkd ⊢
    have w1 : ∀ p ∈ atA lP px (idxE X0 Y0 X1 x y), p := fun p hp => hkd p (List.mem_append.2 (.inl hp))
    have hcv : curveB lC cs = true := by simp [validB, chV, chB] at hv; exact hv.1
    have hn : nC = false := by
      cases nC with
      | false => rfl
      | true => have h1 := (hnC rfl).1; have h2 := curveB_two hcv; omega
    subst hn
    obtain ⟨L, hr⟩ := pi_5 nK ks cs px X0 Y0 X1 Y1 x y 0 d v lK cK zK lC cC zC lP cP zP
    refine TG_ret XV5 mo _ (by kernel_rfl) hr fun g hg _ => ?_
    rw [List.mem_singleton] at hg; subst hg
    have hto : ∀ p ∈ toA cs lC, p := fun p hp => by
      simp only [List.mem_cons, List.not_mem_nil, or_false] at hp
      rcases hp with rfl | rfl | rfl
      · exact hcv
      · exact h.lc.1
      · exact h.lc.2
    refine ⟨fun p hp => ?_, _, _, _, rfl, ?_⟩
    · rcases List.mem_append.1 hp with hp | hp
      · exact win_one w1 h.bx h.bY p hp
      rcases List.mem_append.1 hp with hp | hp
      · exact hto p hp
      rcases List.mem_append.1 hp with hp | hp
      · exact hto p hp
      · exact hto p hp
    · show _ = mkP _ _ _ (u8w (w64 (pq px (idxE X0 Y0 X1 x y) 3)))
      rw [u8_same (q4_rng h.u8 _ 3)]; rfl
  · have hr : r = 0 := by rcases validK hv with ⟨g, _, _⟩ | ⟨g, _⟩ | ⟨_, g⟩ | ⟨g, _⟩ <;> first | exact g | omega
    subst hr
    have hk0 : kdOf 6 = .inv := rfl
    rw [hk0] at hkd ⊢
    refine TG_ret XV5 mo _ (by kernel_rfl) (pi_6 nK nC ks cs px X0 Y0 X1 Y1 x y 0 d v lK cK zK lC cC zC lP cP zP) fun g hg _ => ?_
    rw [List.mem_singleton] at hg; subst hg
    have hi : ∀ j, iW (rPx px X0 Y0 X1 x y j) = invC (pq px (idxE X0 Y0 X1 x y) j) := fun j => by
      have := q4_rng h.u8 (idxE X0 Y0 X1 x y) j
      unfold invC
      rw [w64_u8 this, w64_u8 (by omega)]
    refine ⟨fun p hp => win_one hkd h.bx h.bY p hp, _, _, _, rfl, ?_⟩
    show _ = mkP (invC _) (invC _) (invC _) (u8w (w64 (pq px (idxE X0 Y0 X1 x y) 3)))
    rw [u8_same (q4_rng h.u8 _ 3), hi 0, hi 1, hi 2]
  · have hr : r = 0 := by rcases validK hv with ⟨g, _, _⟩ | ⟨g, _⟩ | ⟨_, g⟩ | ⟨g, _⟩ <;> first | exact g | omega
    subst hr
    have hk0 : kdOf 7 = .thr := rfl
    rw [hk0] at hkd ⊢
    have hq : kdQ X0 Y0 X1 px 7 0 d v ks lC cs x y .thr = if thC px X0 Y0 X1 x y v = true then (255, 255, 255, u8w (w64 (pq px (idxE X0 Y0 X1 x y) 3))) else (0, 0, 0, u8w (w64 (pq px (idxE X0 Y0 X1 x y) 3))) := rfl
    rw [hq, u8_same (q4_rng h.u8 _ 3)]
    refine TG_ret XV5 mo _ (by kernel_rfl) (pi_7 nK nC ks cs px X0 Y0 X1 Y1 x y 0 d v lK cK zK lC cC zC lP cP zP) fun g hg hc => ?_
    simp only [List.mem_cons, List.not_mem_nil, or_false] at hg
    rcases hg with rfl | rfl
    · have := hc _ (List.mem_singleton.2 rfl)
      refine ⟨fun p hp => win_one hkd h.bx h.bY p hp, _, _, _, rfl, ?_⟩
      rw [if_pos this]; rfl
    · have := hc _ (List.mem_singleton.2 rfl)
      refine ⟨fun p hp => win_one hkd h.bx h.bY p hp, _, _, _, rfl, ?_⟩
      have : thC px X0 Y0 X1 x y v = false := this
      rw [if_neg (by rw [this]; simp)]; rfl
  · have hk0 : kdOf 8 = .off := rfl
    rw [hk0] at hkd ⊢
    refine TG_ret XV5 mo _ (by kernel_rfl) (pi_8 nK nC ks cs px X0 Y0 X1 Y1 x y r d v lK cK zK lC cC zC lP cP zP) fun g hg _ => ?_
    rw [List.mem_singleton] at hg; subst hg
    exact ⟨hkd, _, _, _, rfl, rfl⟩
  · rw [validB_o r d v lK ks lC cs q] at hv; cases hv
end
def specPi : List V → Tr O → Option (List Prop × V)
  | [.agg [.int .i64 k, .int .i64 r, sK, .int .i64 d, .int .i64 v, sC], .agg [.int .i64 X0, .int .i64 Y0, .int .i64 X1, .int .i64 _, P], .int .i64 x, .int .i64 y], h => match rowK .i64 1 h sK, rowK .i64 1 h sC, rowK .u8 4 h P with
    | some (_, lK, ks), some (_, lC, cs), some (some _, lP, px) => some ([PiOk k ks cs px X0 Y0 X1 x y r d v lK lC lP], mkV (kdQ X0 Y0 X1 px k r d v ks lC cs x y (kdOf k)))
    | _, _, _ => none
  | _, _ => none
theorem one_Pi : PureA Try.prog 51 specPi := by
  refine ⟨Nat.le_of_ble_eq_true (by kernel_rfl), fun args h A u e => ?_⟩
  unfold specPi at e
  split at e
  case h_2 => cases e
  rename_i k r sK d v sC X0 Y0 X1 Y1 P x y
  split at e
  case h_2 => cases e
  rename_i aK lK ks aC lC cs aP lP px hK hC hP
  simp only [Option.some.injEq, Prod.mk.injEq] at e; obtain ⟨rfl, rfl⟩ := e
  refine ⟨rfl, fun hA E n' w args' ra g hd hc => ?_⟩
  obtain ⟨nK, cK, zK, RK⟩ := rowArg hK
  obtain ⟨nC, cC, zC, RC⟩ := rowArg hC
  obtain ⟨nP, cP, zP, RP⟩ := rowArg hP
  obtain rfl : nP = false := RP.nn
  obtain ⟨y1, ys1, r1, ⟨y2, ys2, r2, rs, rfl⟩, rfl⟩ := ra
  obtain ⟨g2, d2, n2⟩ := rows_ok g [aK, aC, some aP] [rwK nK .i64 ks, rwK nC .i64 cs, rwK false .u8 px] (Nat.le_of_ble_eq_true rfl) (by
    intro j k' ks' hj
    match j, hj with
    | 0, hj => obtain ⟨m, o, full, rfl, q⟩ := RK.row k' ks' (Option.some.inj hj); exact ⟨m, o, full, rfl, q⟩
    | 1, hj => obtain ⟨m, o, full, rfl, q⟩ := RC.row k' ks' (Option.some.inj hj); exact ⟨m, o, full, rfl, q⟩
    | 2, hj => obtain ⟨m, o, full, e, q⟩ := RP.row k' ks' (Option.some.inj hj); exact ⟨m, o, full, by rw [← e]; rfl, q⟩
    | j + 3, hj => simp at hj)
  exact read_calls mo po Try.func51 (code := cdPi) (by kernel_rfl) (by kernel_rfl) (tgPi (Y1 := Y1) (cK := cK) (zK := zK) (cC := cC) (zC := zC) (cP := cP) (zP := zP) RK.nl RC.nl (hA _ (List.mem_singleton.2 rfl))) (E := E.rows [aK, aC, some aP]) g2 d2 n2
    ⟨y1, _, fl_rel (fun z q => RK.rel E _ 0 z rfl q) (fun z q => RC.rel E _ 1 z rfl q) r1, ⟨y2, _, im_rel (fun t q => RP.rel E _ 2 t rfl q) r2, frees_noE (by rfl) rs, rfl⟩, rfl⟩
end Go.Proofs.Ytadejpmecljjpaa
