/- FilterApply: the whole function. No conditions. -/
import Derived.Test.YtadejpmecljjpaaFlApK
import Derived.Test.YtadejpmecljjpaaFlApL
import Derived.Test.YtadejpmecljjpaaFlThirteen
set_option linter.unusedVariables false
set_option linter.unusedSimpArgs false
set_option linter.unusedSectionVars false
namespace Go.Proofs.Ytadejpmecljjpaa
open Go Go.Eng
theorem u8r_out {p : Nat → Q4} (h : ∀ i, (0 ≤ (p i).1 ∧ (p i).1 ≤ 255) ∧ (0 ≤ (p i).2.1 ∧ (p i).2.1 ≤ 255) ∧ (0 ≤ (p i).2.2.1 ∧ (p i).2.2.1 ≤ 255) ∧ (0 ≤ (p i).2.2.2 ∧ (p i).2.2.2 ≤ 255)) (M : Nat) : u8r (outR p M) := by
  intro t
  by_cases ht : t < M * 4
  · obtain ⟨g1, g2, g3, g4⟩ := outR_get p M (t / 4) (by omega)
    obtain ⟨q1, q2, q3, q4⟩ := h (t / 4)
    have hd := Nat.div_add_mod t 4
    have hm : t % 4 = 0 ∨ t % 4 = 1 ∨ t % 4 = 2 ∨ t % 4 = 3 := by omega
    rcases hm with hm | hm | hm | hm
    · rw [show t = t / 4 * 4 by omega, g1]; exact q1
    · rw [show t = t / 4 * 4 + 1 by omega, g2]; exact q2
    · rw [show t = t / 4 * 4 + 2 by omega, g3]; exact q3
    · rw [show t = t / 4 * 4 + 3 by omega, g4]; exact q4
  · rw [List.getD_eq_getElem?_getD, List.getElem?_eq_none (by rw [outR_len]; omega)]
    exact ⟨Int.le_refl 0, by decide⟩
theorem k60_ok {l c : Nat} (h : l ≤ c) : capI (k60 l) c := by
  unfold capI k60
  have e1 : Int.ofNat l = (l : Int) := rfl
  have e2 : Int.ofNat c = (c : Int) := rfl
  rw [e1, e2]
  split <;> omega
theorem k300_ok {l c : Nat} (h : l ≤ c) : capI (k300 l) c := by
  unfold capI k300
  have e1 : Int.ofNat l = (l : Int) := rfl
  have e2 : Int.ofNat c = (c : Int) := rfl
  rw [e1, e2]
  split <;> omega
theorem k60_le (l : Nat) : (k60 l).toNat ≤ l ∧ (k60 l).toNat ≤ 60 := by
  unfold k60
  have e1 : Int.ofNat l = (l : Int) := rfl
  rw [e1]
  split <;> omega
theorem k300_le (l : Nat) : (k300 l).toNat ≤ l ∧ (k300 l).toNat ≤ 300 := by
  unfold k300
  have e1 : Int.ofNat l = (l : Int) := rfl
  rw [e1]
  split <;> omega
theorem smO_of {a b c e a' b' c' e' : Int} {M M' : Nat} {ox ox' : List Int} (h1 : a = a' ∧ b = b' ∧ c = c' ∧ e = e') (h2 : M = M') (h3 : ox = ox') (h : M * 4 ≤ ox.length) (hM : M ≤ 300000) : ∀ p ∈ smOk a b c e a' b' c' e' M M' ox ox', p := by
  simp only [smOk, List.mem_cons, List.not_mem_nil, or_false]
  rintro p (rfl | rfl | rfl | rfl | rfl | rfl)
  · exact h1
  · exact h2
  · exact h
  · rw [← h3]; exact h
  · exact hM
  · exact fun i _ => by rw [h3]
theorem smO_self {a b c e : Int} {M : Nat} {ox : List Int} (h : M * 4 ≤ ox.length) (hM : M ≤ 300000) : ∀ p ∈ smOk a b c e a b c e M M ox ox, p := smO_of ⟨rfl, rfl, rfl, rfl⟩ rfl rfl h hM
theorem smG_ok {a b c e : Int} {M : Nat} {h : Bool} {oy : List Int} (hy : h = false → M * 4 ≤ oy.length) (hM : M ≤ 300000) : ∀ p ∈ smG a b c e M h oy, p := by
  cases h with
  | false => exact smO_self (hy rfl) hM
  | true => exact smO_self (Nat.le_refl _) (Nat.zero_le _)
theorem fin_ok (a : Int) (h : Bool) (z : Int) : ∀ p ∈ finA a h z, p := by
  simp only [List.mem_cons, List.not_mem_nil, or_false]
  rintro p (rfl | rfl | rfl)
  · rfl
  · rw [beq_self_eq_true]
  · rw [rcE_self]
theorem dn1_ok {N : Nat} (h0 : 0 < N) (h : N ≤ 1000000) : V.int .i64 (w64 (Int.ofNat N - 1)) = V.int .i64 (Int.ofNat (N - 1)) := by
  have hI : ∀ n : Nat, Int.ofNat n = (n : Int) := fun _ => rfl
  rw [hI, hI, w64_id (by omega) (by omega)]; congr 1; omega
theorem dn2_ok (N : Nat) : 0 ≤ Int.ofNat (N - 1) ∧ Int.ofNat (N - 1) ≤ Int.ofNat N := by
  have hI : ∀ n : Nat, Int.ofNat n = (n : Int) := fun _ => rfl
  rw [hI, hI]; omega
theorem err_empty {k r d v : Int} {lK : Nat} {ks : List Int} {lC : Nat} {cs : List Int} (hv : validB k r d v lK ks lC cs = true) {X0 Y0 X1 Y1 a : Int} {N : Nat} (m0 : m20 X0) (m1 : m20 Y0) (m2 : m20 X1) (m3 : m20 Y1) (n0 : m20 a) (hX : X0 < X1) (hY : Y0 < Y1) (hN : N = rcN X0 Y0 X1 Y1) : apErr X0 Y0 X1 Y1 a 0 a 0 N k r d v lK ks lC cs = 0 := by
  have he : emptyB a 0 a 0 = true := by unfold emptyB; simp
  have hz : m20 0 := ⟨by omega, by omega⟩
  refine aE_of hv (adm_ok m0 m1 m2 m3) (by rw [hN]; exact rcN_eq m0 m1 m2 m3 hX hY) (adm_ok n0 hz n0 hz) ?_ ?_
  · unfold areI; rw [he, if_pos rfl]; decide
  · have hA : areaQ true k r v a 0 a 0 (-1) = (0, 0, 0, 0) := by
      unfold areaQ; rw [if_pos (Or.inr he)]; rfl
    rw [hA]
    unfold insB
    have : emptyB 0 0 0 0 = true := by decide
    show (emptyB 0 0 0 0 || _) = true
    rw [this, Bool.true_or]
theorem err_short {k r d v : Int} {lK : Nat} {ks : List Int} {lC : Nat} {cs : List Int} (hv : validB k r d v lK ks lC cs = true) {X0 Y0 X1 Y1 a b c e : Int} {N : Nat} (m0 : m20 X0) (m1 : m20 Y0) (m2 : m20 X1) (m3 : m20 Y1) (hN : ((N : Nat) : Int) ≠ areI X0 Y0 X1 Y1) : apErr X0 Y0 X1 Y1 a b c e N k r d v lK ks lC cs = 1 := by
  unfold apErr
  rw [if_neg (by rw [hv]; simp), if_neg (by rw [adm_ok m0 m1 m2 m3]; simp), if_pos hN]
section
variable (nF nM nK nC : Bool) (fs ms ks cs : List Int) (cl : Cl) (k r d v : Int) (l : Nat) (gs : List Int) (a b c e X0 Y0 X1 Y1 : Int) (N : Nat) (px : List Int) (A B C E : Int) (M : Nat) (ox : List Int) (h : Bool) (oy : List Int) (z y : Int)
set_option maxRecDepth 100000
abbrev RtF : Exit → St → Prop := RetG Try.prog 4 Try.f3 fun u _ _ => u = .bool true
theorem fa_g (hf5 : ∀ p ∈ fa5 ⟨cl, k, r, d, v, l, gs⟩, p) (hp : N * 4 ≤ px.length) (hu : u8r px) (hM : M ≤ 300000) (hox : M * 4 ≤ ox.length) (hoy : h = false → M * 4 ≤ oy.length)
    (hy : (emptyB A B C E = true) ∨ (emptyB A B C E = false ∧ erF cl k r d v l gs X0 Y0 X1 Y1 A B C E N = y)) :
    TG Try.prog 4 Try.f3.ntmps (tailN 13 cdFA) (sF6 nF nM nK nC fs ms ks cs cl k r d v l gs a b c e X0 Y0 X1 Y1 N px A B C E M ox h oy z y) RtF := by
  have s1 := smO_self (a := a) (b := b) (c := c) (e := e) hox hM
  have s2 := smG_ok (a := a) (b := b) (c := c) (e := e) hoy hM
  have s3 := fin_ok a h z
  rcases hy with hy | ⟨hy, hy2⟩
  · have hr : RunIs _ _ _ _ _ _ _ _ _ _ _ := fa_Gn nF nM nK nC fs ms ks cs cl k r d v l gs a b c e X0 Y0 X1 Y1 N px A B C E M ox h oy z y
    refine TG_ret XQk mo _ (by kernel_rfl) hr fun g hg _ => ?_
    rw [List.mem_singleton] at hg; subst hg
    refine ⟨fun p hp => ?_, _, _, _, rfl, rfl⟩
    rcases List.mem_append.1 hp with hp | hp
    · exact s1 p hp
    rcases List.mem_append.1 hp with hp | hp
    · exact s2 p hp
    rcases List.mem_cons.1 hp with rfl | hp
    · unfold pBq; rw [hy]; rfl
    · exact s3 p hp
  by_cases hz : y = 0
  · subst hz
    have hr : RunIs _ _ _ _ _ _ _ _ _ _ _ := fa_Gk nF nM nK nC fs ms ks cs cl k r d v l gs a b c e X0 Y0 X1 Y1 N px A B C E M ox h oy z
    refine TG_ret XQk mo _ (by kernel_rfl) hr fun g hg _ => ?_
    rw [List.mem_singleton] at hg; subst hg
    refine ⟨fun p hp' => ?_, _, _, _, rfl, rfl⟩
    rcases List.mem_append.1 hp' with hp' | hp'
    · exact s1 p hp'
    rcases List.mem_append.1 hp' with hp' | hp'
    · exact s2 p hp'
    rcases List.mem_cons.1 hp' with rfl | hp'
    · unfold pBq; rw [hy]; rfl
    rcases List.mem_append.1 hp' with hp' | hp'
    · exact hf5 p hp'
    rcases List.mem_append.1 hp' with hp' | hp'
    · simp only [okR, List.mem_cons, List.not_mem_nil, or_false] at hp'
      rcases hp' with rfl | rfl | rfl | rfl
      · exact hp
      · exact hu
      · exact hy2
      · exact hy
    rcases List.mem_cons.1 hp' with rfl | hp'
    · rfl
    · exact s3 p hp'
  · have hr : RunIs _ _ _ _ _ _ _ _ _ _ _ := fa_Ge nF nM nK nC fs ms ks cs cl k r d v l gs a b c e X0 Y0 X1 Y1 N px A B C E M ox h oy z y
    refine TG_ret (XQe y) mo _ (by kernel_rfl) hr fun g hg _ => ?_
    rw [List.mem_singleton] at hg; subst hg
    refine ⟨fun p hp' => ?_, _, _, _, rfl, rfl⟩
    rcases List.mem_append.1 hp' with hp' | hp'
    · exact s1 p hp'
    rcases List.mem_append.1 hp' with hp' | hp'
    · exact s2 p hp'
    rcases List.mem_cons.1 hp' with rfl | hp'
    · unfold pBq; rw [hy]; rfl
    rcases List.mem_append.1 hp' with hp' | hp'
    · exact hf5 p hp'
    rcases List.mem_append.1 hp' with hp' | hp'
    · simp only [List.mem_cons, List.not_mem_nil, or_false] at hp'
      rcases hp' with rfl | rfl
      · exact hy2
      · exact hz
    rcases List.mem_cons.1 hp' with rfl | hp'
    · unfold pBq; rw [bne_self_eq_false]
    · exact s3 p hp'
theorem fa_f (hf5 : ∀ p ∈ fa5 ⟨cl, k, r, d, v, l, gs⟩, p) (hp : N * 4 ≤ px.length) (hu : u8r px) (hM : M ≤ 300000) (hox : M * 4 ≤ ox.length) (hoy : h = false → M * 4 ≤ oy.length)
    (hz0 : erF cl k r d v l gs X0 Y0 X1 Y1 a 0 a 0 N = 0)
    (hy : (emptyB A B C E = true) ∨ (emptyB A B C E = false ∧ erF cl k r d v l gs X0 Y0 X1 Y1 A B C E N = y)) :
    TG Try.prog 4 Try.f3.ntmps (tailN 12 cdFA) (sF5 nF nM nK nC fs ms ks cs cl k r d v l gs a b c e X0 Y0 X1 Y1 N px A B C E M ox h oy z y) RtF := by
  have he : emptyB a 0 a 0 = true := by unfold emptyB; simp
  have hr : RunIs _ _ _ _ _ _ _ _ _ _ _ := fa_F nF nM nK nC fs ms ks cs cl k r d v l gs a b c e X0 Y0 X1 Y1 N px A B C E M ox h oy z y
  refine TG_isN1 1 XQn mo (by kernel_rfl) hr (fun p hp' => ?_) (fa_g nF nM nK nC fs ms ks cs cl k r d v l gs a b c e X0 Y0 X1 Y1 N px A B C E M ox h oy z y hf5 hp hu hM hox hoy hy)
  rcases List.mem_append.1 hp' with hp' | hp'
  · exact hf5 p hp'
  · simp only [List.mem_cons, List.not_mem_nil, or_false] at hp'
    rcases hp' with rfl | rfl | rfl
    · exact hp
    · exact hz0
    · exact he
theorem fa_d (hf5 : ∀ p ∈ fa5 ⟨cl, k, r, d, v, l, gs⟩, p) (hp : N * 4 ≤ px.length) (hu : u8r px) (hM : M ≤ 300000) (hox : M * 4 ≤ ox.length) (hoy : h = false → M * 4 ≤ oy.length)
    (hz0 : erF cl k r d v l gs X0 Y0 X1 Y1 a 0 a 0 N = 0) (hs : erF cl k r d v l gs X0 Y0 X1 Y1 a b c e (N - 1) = 1) :
    TG Try.prog 4 Try.f3.ntmps (tailN 10 cdFA) (sF3 nF nM nK nC fs ms ks cs cl k r d v l gs a b c e X0 Y0 X1 Y1 N px A B C E M ox h oy z) RtF := by
  have hr : RunIs _ _ _ _ _ _ _ _ _ _ _ := fa_D nF nM nK nC fs ms ks cs cl k r d v l gs a b c e X0 Y0 X1 Y1 N px A B C E M ox h oy z
  refine TG_isN1 1 (XQe 1) mo (by kernel_rfl) hr (fun p hp' => ?_) ?_
  · rcases List.mem_append.1 hp' with hp' | hp'
    · exact hf5 p hp'
    · simp only [List.mem_cons, List.not_mem_nil, or_false] at hp'
      rcases hp' with rfl | rfl
      · exact hs
      · decide
  show TG Try.prog 4 Try.f3.ntmps (tailN 11 cdFA) (sF4 nF nM nK nC fs ms ks cs cl k r d v l gs a b c e X0 Y0 X1 Y1 N px A B C E M ox h oy z) RtF
  by_cases hE : erF cl k r d v l gs X0 Y0 X1 Y1 A B C E N = 0
  · cases hB : emptyB A B C E with
    | true =>
      have hr : RunIs _ _ _ _ _ _ _ _ _ _ _ := fa_En nF nM nK nC fs ms ks cs cl k r d v l gs a b c e X0 Y0 X1 Y1 N px A B C E M ox h oy z
      refine TG_isN1 1 XQn mo (by kernel_rfl) hr (fun p hp' => ?_) (fa_f nF nM nK nC fs ms ks cs cl k r d v l gs a b c e X0 Y0 X1 Y1 N px A B C E M ox h oy z 0 hf5 hp hu hM hox hoy hz0 (.inl hB))
      rcases List.mem_append.1 hp' with hp' | hp'
      · exact hf5 p hp'
      · simp only [List.mem_cons, List.not_mem_nil, or_false] at hp'
        rcases hp' with rfl | rfl | rfl
        · exact hp
        · exact hE
        · exact hB
    | false =>
      have hr : RunIs _ _ _ _ _ _ _ _ _ _ _ := fa_Ek nF nM nK nC fs ms ks cs cl k r d v l gs a b c e X0 Y0 X1 Y1 N px A B C E M ox h oy z
      refine TG_isN1 1 XQk mo (by kernel_rfl) hr (fun p hp' => ?_) (fa_f nF nM nK nC fs ms ks cs cl k r d v l gs a b c e X0 Y0 X1 Y1 N px A B C E M ox h oy z 0 hf5 hp hu hM hox hoy hz0 (.inr ⟨hB, hE⟩))
      rcases List.mem_append.1 hp' with hp' | hp'
      · exact hf5 p hp'
      · simp only [askF, List.mem_cons, List.not_mem_nil, or_false] at hp'
        rcases hp' with rfl | rfl | rfl
        · exact hp
        · exact hE
        · exact hB
  · generalize hY : erF cl k r d v l gs X0 Y0 X1 Y1 A B C E N = y at hE
    have hr : RunIs _ _ _ _ _ _ _ _ _ _ _ := fa_Ee nF nM nK nC fs ms ks cs cl k r d v l gs a b c e X0 Y0 X1 Y1 N px A B C E M ox h oy z y
    refine TG_isN1 1 (XQe y) mo (by kernel_rfl) hr (fun p hp' => ?_) (fa_f nF nM nK nC fs ms ks cs cl k r d v l gs a b c e X0 Y0 X1 Y1 N px A B C E M ox h oy z y hf5 hp hu hM hox hoy hz0 (by
      cases hB : emptyB A B C E with
      | true => exact .inl rfl
      | false => exact .inr ⟨rfl, hY⟩))
    rcases List.mem_append.1 hp' with hp' | hp'
    · exact hf5 p hp'
    · simp only [List.mem_cons, List.not_mem_nil, or_false] at hp'
      rcases hp' with rfl | rfl
      · exact hY
      · exact hE
end
section
variable (nF nM nK nC : Bool) (fs ms ks cs : List Int) (md : Md) (gk gr gd gv : Int) (lK cK lC cC lF cF lM cM : Nat) (q0 q1 q2 q3 A B C E : Int)
set_option maxRecDepth 100000
theorem tgFA (hM : ln nM lM ≤ (rw' nM ms).length) (hK : ln nK lK ≤ (rw' nK ks).length) (hC : ln nC lC ≤ (rw' nC cs).length) (kK : ln nK lK ≤ ln nK cK) (kC : ln nC lC ≤ ln nC cC) (hmd : MadeIs (rw' nF fs) (min 60 (ln nF lF)) md) :
    TG Try.prog 4 Try.f3.ntmps cdFA (stFA nF nM nK nC fs ms ks cs gk gr gd gv cK cC A B C E lF cF lM cM lK lC q0 q1 q2 q3) RtF := by
  obtain ⟨cl, k, r, d, v, l, gs⟩ := md
  have hv : vBC cl k r d v l gs = true := md_valid hmd
  have hf5 := fa5_ok hmd
  have s0 := smX_bd q0
  have s1 := smX_bd q1
  have s2 := smW_bd q0 q2
  have s3 := smW_bd q1 q3
  obtain ⟨p0, p1, p2, p3, hp0, hp1, hp2, hp3, hform, _, _⟩ := area_form2 hv
  have hnd : ndM true ⟨cl, k, r, d, v, l, gs⟩ q0 q1 q2 q3 = (smX q0 + p0, smX q1 + p1, smW q0 q2 + p2, smW q1 q3 + p3) := hform _ _ _ _ (by omega) (by omega) (by omega) (by omega) (by omega) (by omega)
  have x0 : m20 (smX q0 + p0) := ⟨by omega, by omega⟩
  have x1 : m20 (smX q1 + p1) := ⟨by omega, by omega⟩
  have x2 : m20 (smW q0 q2 + p2) := ⟨by omega, by omega⟩
  have x3 : m20 (smW q1 q3 + p3) := ⟨by omega, by omega⟩
  have hN : (arQ (smX q0 + p0, smX q1 + p1, smW q0 q2 + p2, smW q1 q3 + p3)).toNat = rcN (smX q0 + p0) (smX q1 + p1) (smW q0 q2 + p2) (smW q1 q3 + p3) := areI_toNat x0 x1 x2 x3 (show smX q0 + p0 < smW q0 q2 + p2 by omega) (show smX q1 + p1 < smW q1 q3 + p3 by omega)
  have h1 : RunIs _ _ _ _ _ _ _ _ _ _ _ := fa_A nF nM nK nC fs ms ks cs cl k r d v l gs gk gr gd gv cK cC A B C E lF cF lM cM lK lC q0 q1 q2 q3
  rw [hnd, hN] at h1
  have hN0 : 0 < rcN (smX q0 + p0) (smX q1 + p1) (smW q0 q2 + p2) (smW q1 q3 + p3) := Nat.mul_pos (by omega) (by omega)
  have hN4 : rcN (smX q0 + p0) (smX q1 + p1) (smW q0 q2 + p2) (smW q1 q3 + p3) ≤ 400 := rcN_20 (by omega) (by omega)
  refine TG_isN1 6 (XQm ⟨cl, k, r, d, v, l, gs⟩) mo (by kernel_rfl) h1 (fun p hp => ?_) ?_
  · simp only [faA, List.mem_cons, List.not_mem_nil, or_false] at hp
    rcases hp with rfl | rfl | rfl | rfl | rfl | rfl
    · exact hM
    · exact hmd
    · exact k60_ok kK
    · exact k300_ok kC
    · exact dn1_ok hN0 (Nat.le_trans hN4 (by decide))
    · exact dn2_ok _
  clear h1 hN hnd
  generalize hAA : smX q0 = a at s0 s2 x0 x2 hN0 hN4 ⊢
  generalize hBB : smX q1 = b at s1 s3 x1 x3 hN0 hN4 ⊢
  generalize hCC : smW q0 q2 = c at s2 x2 hN0 hN4 ⊢
  generalize hEE : smW q1 q3 = e at s3 x3 hN0 hN4 ⊢
  have m0 : m20 a := ⟨by omega, by omega⟩
  have m1 : m20 b := ⟨by omega, by omega⟩
  have m2 : m20 c := ⟨by omega, by omega⟩
  have m3 : m20 e := ⟨by omega, by omega⟩
  have hM8 : rcN a b c e ≤ 400 := rcN_20 (by omega) (by omega)
  have hem : emptyB a b c e = false := emptyB_lt (by omega) (by omega)
  have hu : u8r (outR (imgQ (cutN (ln nM lM)) (rw' nM ms)) (rcN (a + p0) (b + p1) (c + p2) (e + p3))) := u8r_out (fun i => by have := imgQ_cln (cutN (ln nM lM)) (rw' nM ms) i; exact ⟨this.r, this.g, this.b, this.a⟩) _
  have hlen : (outR (imgQ (cutN (ln nM lM)) (rw' nM ms)) (rcN (a + p0) (b + p1) (c + p2) (e + p3))).length = (rcN (a + p0) (b + p1) (c + p2) (e + p3)) * 4 := outR_len _ _
  have herr : erF cl k r d v l gs (a + p0) (b + p1) (c + p2) (e + p3) a b c e (rcN (a + p0) (b + p1) (c + p2) (e + p3)) = 0 := errC_ok hv (hform a b c e (by omega) (by omega) (by omega) (by omega) (by omega) (by omega)) x0 x1 x2 x3 m0 m1 m2 m3 (by omega) (by omega) (by omega) (by omega) rfl (by omega) (by omega) (by omega) (by omega) (by omega)
  have hz0 : erF cl k r d v l gs (a + p0) (b + p1) (c + p2) (e + p3) a 0 a 0 (rcN (a + p0) (b + p1) (c + p2) (e + p3)) = 0 := err_empty hv x0 x1 x2 x3 m0 (by omega) (by omega) rfl
  have hs1 : erF cl k r d v l gs (a + p0) (b + p1) (c + p2) (e + p3) a b c e ((rcN (a + p0) (b + p1) (c + p2) (e + p3)) - 1) = 1 := err_short hv x0 x1 x2 x3 (by rw [← rcN_eq x0 x1 x2 x3 (by omega) (by omega)]; omega)
  have c1 := k60_le lK
  have c2 := k300_le lC
  show TG Try.prog 4 Try.f3.ntmps (tailN 6 cdFA) (sF1 nF nM nK nC fs ms ks cs cl k r d v l gs gk gr gd gv (k60 lK).toNat cK (k300 lC).toNat cC a b c e (a + p0) (b + p1) (c + p2) (e + p3) (rcN (a + p0) (b + p1) (c + p2) (e + p3)) (outR (imgQ (cutN (ln nM lM)) (rw' nM ms)) (rcN (a + p0) (b + p1) (c + p2) (e + p3))) A B C E) RtF
  generalize hpx : outR (imgQ (cutN (ln nM lM)) (rw' nM ms)) (rcN (a + p0) (b + p1) (c + p2) (e + p3)) = px at hu hlen ⊢
  clear hpx
  have hg4 : ∀ p ∈ fa4 nK nC (k60 lK).toNat (k300 lC).toNat ks cs, p := by
    have u1 : ln nK (k60 lK).toNat ≤ ln nK lK ∧ ln nK (k60 lK).toNat ≤ 60 := by cases nK; exact c1; exact ⟨Nat.le_refl _, Nat.zero_le _⟩
    have u2 : ln nC (k300 lC).toNat ≤ ln nC lC ∧ ln nC (k300 lC).toNat ≤ 300 := by cases nC; exact c2; exact ⟨Nat.le_refl _, Nat.zero_le _⟩
    simp only [fa4, List.mem_cons, List.not_mem_nil, or_false]
    rintro p (rfl | rfl | rfl | rfl) <;> omega
  generalize (k60 lK).toNat = mK at hg4 ⊢
  generalize (k300 lC).toNat = mC at hg4 ⊢
  generalize hNN : (rcN (a + p0) (b + p1) (c + p2) (e + p3)) = N at *
  generalize a + p0 = X0 at *
  generalize b + p1 = Y0 at *
  generalize c + p2 = X1 at *
  generalize e + p3 = Y1 at *
  have h2 : RunIs _ _ _ _ _ _ _ _ _ _ _ := fa_B nF nM nK nC fs ms ks cs cl k r d v l gs gk gr gd gv mK cK mC cC a b c e X0 Y0 X1 Y1 N px A B C E
  refine TG_isN1 2 XQk mo (by kernel_rfl) h2 (fun p hp => ?_) ?_
  · rcases List.mem_append.1 hp with hp | hp
    · exact hf5 p hp
    rcases List.mem_append.1 hp with hp | hp
    · simp only [askF, List.mem_cons, List.not_mem_nil, or_false] at hp
      rcases hp with rfl | rfl | rfl
      · omega
      · exact herr
      · exact hem
    rcases List.mem_append.1 hp with hp | hp
    · exact hf5 p hp
    · simp only [okR, List.mem_cons, List.not_mem_nil, or_false] at hp
      rcases hp with rfl | rfl | rfl | rfl
      · omega
      · exact hu
      · exact herr
      · exact hem
  clear h2
  have hol : (ouF cl k r d v l gs X0 Y0 X1 a b c e px).length = rcN a b c e * 4 := outR_len _ _
  show TG Try.prog 4 Try.f3.ntmps (tailN 8 cdFA) (sF2 nF nM nK nC fs ms ks cs cl k r d v l gs gk gr gd gv mK cK mC cC a b c e X0 Y0 X1 Y1 N px A B C E (rcN a b c e) (ouF cl k r d v l gs X0 Y0 X1 a b c e px)) RtF
  generalize ouF cl k r d v l gs X0 Y0 X1 a b c e px = ox at hol ⊢
  by_cases hE : aE nK nC X0 Y0 X1 Y1 a b c e N gk gr gd gv mK mC ks cs = 0
  · have h3 : RunIs _ _ _ _ _ _ _ _ _ _ _ := fa_Ck nF nM nK nC fs ms ks cs cl k r d v l gs gk gr gd gv mK cK mC cC a b c e X0 Y0 X1 Y1 N px A B C E ox 0
    refine TG_isN1 2 XQk mo (by kernel_rfl) h3 (fun p hp => ?_) (fa_d nF nM nK nC fs ms ks cs cl k r d v l gs a b c e X0 Y0 X1 Y1 N px A B C E (rcN a b c e) ox false _ 0 hf5 (by omega) hu (by omega) (by omega) (fun _ => Nat.le_of_eq (outR_len _ _).symm) hz0 hs1)
    rcases List.mem_append.1 hp with hp | hp
    · exact hg4 p hp
    rcases List.mem_append.1 hp with hp | hp
    · simp only [List.mem_cons, List.not_mem_nil, or_false] at hp
      rcases hp with rfl | rfl | rfl
      · omega
      · exact hE
      · exact hem
    rcases List.mem_append.1 hp with hp | hp
    · exact hg4 p hp
    · simp only [List.mem_cons, List.not_mem_nil, or_false] at hp
      rcases hp with rfl | rfl | rfl | rfl
      · omega
      · exact hu
      · exact hE
      · exact hem
  · generalize hZ : aE nK nC X0 Y0 X1 Y1 a b c e N gk gr gd gv mK mC ks cs = z at hE
    have h3 : RunIs _ _ _ _ _ _ _ _ _ _ _ := fa_Ce nF nM nK nC fs ms ks cs cl k r d v l gs gk gr gd gv mK cK mC cC a b c e X0 Y0 X1 Y1 N px A B C E ox [] z
    refine TG_isN1 2 (XQe z) mo (by kernel_rfl) h3 (fun p hp => ?_) (fa_d nF nM nK nC fs ms ks cs cl k r d v l gs a b c e X0 Y0 X1 Y1 N px A B C E (rcN a b c e) ox true [] z hf5 (by omega) hu (by omega) (by omega) (fun q => Bool.noConfusion q) hz0 hs1)
    have hzz : ∀ p ∈ [aE nK nC X0 Y0 X1 Y1 a b c e N gk gr gd gv mK mC ks cs = z, z ≠ 0], p := by
      simp only [List.mem_cons, List.not_mem_nil, or_false]
      rintro p (rfl | rfl)
      · exact hZ
      · exact hE
    rcases List.mem_append.1 hp with hp | hp
    · exact hg4 p hp
    rcases List.mem_append.1 hp with hp | hp
    · exact hzz p hp
    rcases List.mem_append.1 hp with hp | hp
    · exact hg4 p hp
    · exact hzz p hp
end
end Go.Proofs.Ytadejpmecljjpaa
