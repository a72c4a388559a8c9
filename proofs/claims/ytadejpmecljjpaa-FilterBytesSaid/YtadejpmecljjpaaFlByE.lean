/- FilterBytes: the whole function. No conditions. -/
import Derived.Test.YtadejpmecljjpaaFlByP
set_option linter.unusedVariables false
set_option linter.unusedSimpArgs false
set_option linter.unusedSectionVars false
namespace Go.Proofs.Ytadejpmecljjpaa
open Go Go.Eng
theorem c30_ok {l c : Nat} (h : l ≤ c) : capI (c30 l) c := by
  unfold capI c30
  have e1 : Int.ofNat l = (l : Int) := rfl
  have e2 : Int.ofNat c = (c : Int) := rfl
  rw [e1, e2]
  split <;> omega
theorem c60_ok {l c : Nat} (h : l ≤ c) : capI (c60 l) c := by
  unfold capI c60
  have e1 : Int.ofNat l = (l : Int) := rfl
  have e2 : Int.ofNat c = (c : Int) := rfl
  rw [e1, e2]
  split <;> omega
theorem cut30_le (l : Nat) : cut30 l ≤ l ∧ cut30 l ≤ 30 := by
  unfold cut30 c30
  have e1 : Int.ofNat l = (l : Int) := rfl
  rw [e1]
  split <;> omega
theorem c60_eq (l : Nat) : (c60 l).toNat = min 60 l := by
  unfold c60
  have e1 : Int.ofNat l = (l : Int) := rfl
  rw [e1]
  split <;> omega
theorem prow_len (ox : List Int) (M : Nat) (h : ox.length = M * 4) {i : Nat} (hi : i < M) (q : List Int) (hq : q.length = 4) : (putI ox (0 + i * 4) q).length = M * 4 := by
  rw [putI_len (by rw [hq]; omega), h]
section
variable (nK nC nA nB nF nM : Bool) (ks cs ka ca fs ms : List Int) (md : Md) (lK cK lC cC lA cA lB cB lF cF lM cM : Nat) (fk fr fd fv gk gr gd gv q0 q1 q2 q3 : Int)
set_option maxRecDepth 100000 in
theorem tgBy (hK : ln nK lK ≤ (rw' nK ks).length) (hC : ln nC lC ≤ (rw' nC cs).length) (hA : ln nA lA ≤ (rw' nA ka).length) (hB : ln nB lB ≤ (rw' nB ca).length) (hM : ln nM lM ≤ (rw' nM ms).length)
    (kK : ln nK lK ≤ ln nK cK) (kC : ln nC lC ≤ ln nC cC) (kA : ln nA lA ≤ ln nA cA) (kB : ln nB lB ≤ ln nB cB) (kF : ln nF lF ≤ ln nF cF)
    (rf : i64R fk ∧ i64R fr ∧ i64R fd ∧ i64R fv) (rg : i64R gk ∧ i64R gr ∧ i64R gd ∧ i64R gv) (rK : ∀ x ∈ rw' nK ks, i64R x) (rC : ∀ x ∈ rw' nC cs, i64R x) (rA : ∀ x ∈ rw' nA ka, i64R x) (rB : ∀ x ∈ rw' nB ca, i64R x) (hmd : MadeIs (rw' nF fs) (min 60 (ln nF lF)) md) :
    TG Try.prog 6 Try.f10.ntmps cdBy (stBy nK nC nA nB nF nM ks cs ka ca fs ms lK cK lC cC lA cA lB cB lF cF lM cM fk fr fd fv gk gr gd gv q0 q1 q2 q3) (RetG Try.prog 6 Try.f10 fun u _ _ => u = .bool true) := by
  obtain ⟨cl, k, r, d, v, l, gs⟩ := md
  have hv : vBC cl k r d v l gs = true := md_valid hmd
  have hf5 := fa5_ok hmd
  have s0 := smX_bd q0
  have s1 := smX_bd q1
  have s2 := smW_bd q0 q2
  have s3 := smW_bd q1 q3
  obtain ⟨p0, p1, p2, p3, hp0, hp1, hp2, hp3, hform, _, hplace⟩ := area_form2 hv
  have hnd : ndM true (mdC cl k r d v l gs) q0 q1 q2 q3 = (smX q0 + p0, smX q1 + p1, smW q0 q2 + p2, smW q1 q3 + p3) := hform _ _ _ _ (by omega) (by omega) (by omega) (by omega) (by omega) (by omega)
  have hby : ∀ p ∈ byM nF nM fs ms cl k r d v l gs lF lM, p := by
    simp only [byM, List.mem_cons, List.not_mem_nil, or_false]
    rintro p (rfl | rfl)
    · exact hM
    · exact hmd
  have h1 : RunIs _ _ _ _ _ _ _ _ _ _ _ := by_1 nK nC nA nB nF nM ks cs ka ca fs ms cl k r d v l gs lK cK lC cC lA cA lB cB lF cF lM cM fk fr fd fv gk gr gd gv q0 q1 q2 q3
  refine TG_isN1 8 (XBy ⟨cl, k, r, d, v, l, gs⟩) mo (by kernel_rfl) h1 (fun p hp => ?_) ?_
  · unfold by1 at hp
    rcases List.mem_append.1 hp with hp | hp
    · simp only [List.mem_cons, List.not_mem_nil, or_false] at hp
      rcases hp with rfl | rfl | rfl | rfl
      · exact c30_ok kK
      · exact c30_ok kC
      · exact c30_ok kA
      · exact c30_ok kB
    rcases List.mem_append.1 hp with hp | hp
    · exact hby p hp
    · exact hby p hp
  clear h1
  have hnd' : ndM true (mdB cl k r d v l gs) q0 q1 q2 q3 = (smX q0 + p0, smX q1 + p1, smW q0 q2 + p2, smW q1 q3 + p3) := hnd
  rw [hnd']
  clear hnd hnd'
  generalize hAA : smX q0 = a at s0 s2 ⊢
  generalize hBB : smX q1 = b at s1 s3 ⊢
  generalize hCC : smW q0 q2 = c at s2 ⊢
  generalize hEE : smW q1 q3 = e at s3 ⊢
  have m0 : m20 a := ⟨by omega, by omega⟩
  have m1 : m20 b := ⟨by omega, by omega⟩
  have m2 : m20 c := ⟨by omega, by omega⟩
  have m3 : m20 e := ⟨by omega, by omega⟩
  have x0 : m20 (a + p0) := ⟨by omega, by omega⟩
  have x1 : m20 (b + p1) := ⟨by omega, by omega⟩
  have x2 : m20 (c + p2) := ⟨by omega, by omega⟩
  have x3 : m20 (e + p3) := ⟨by omega, by omega⟩
  have hN : (arQ (a + p0, b + p1, c + p2, e + p3)).toNat = rcN (a + p0) (b + p1) (c + p2) (e + p3) := areI_toNat x0 x1 x2 x3 (show a + p0 < c + p2 by omega) (show b + p1 < e + p3 by omega)
  have hM8 : rcN a b c e ≤ 400 := rcN_20 (by omega) (by omega)
  have hN8 : rcN (a + p0) (b + p1) (c + p2) (e + p3) ≤ 400 := rcN_20 (by omega) (by omega)
  rw [hN]
  clear hN
  show TG Try.prog 6 Try.f10.ntmps (tailN 8 cdBy) (sQ0 nK nC nA nB nF nM ks cs ka ca fs ms cl k r d v l gs lK cK lC cC lA cA lB cB lF cF lM cM fk fr fd fv gk gr gd gv q0 q1 q2 q3 a b c e (a + p0) (b + p1) (c + p2) (e + p3) (rcN (a + p0) (b + p1) (c + p2) (e + p3)) (outR (imgQ (cutN (ln nM lM)) (rw' nM ms)) (rcN (a + p0) (b + p1) (c + p2) (e + p3)))) _
  generalize hpx : outR (imgQ (cutN (ln nM lM)) (rw' nM ms)) (rcN (a + p0) (b + p1) (c + p2) (e + p3)) = px
  have hlen : px.length = rcN (a + p0) (b + p1) (c + p2) (e + p3) * 4 := by rw [← hpx]; exact outR_len _ _
  clear hpx
  have herr : errC cl k r d v l gs (a + p0) (b + p1) (c + p2) (e + p3) a b c e (rcN (a + p0) (b + p1) (c + p2) (e + p3)) = 0 := errC_ok hv (hform a b c e (by omega) (by omega) (by omega) (by omega) (by omega) (by omega)) x0 x1 x2 x3 m0 m1 m2 m3 (by omega) (by omega) (by omega) (by omega) rfl (by omega) (by omega) (by omega) (by omega) (by omega)
  have hem : emptyB a b c e = false := emptyB_lt (by omega) (by omega)
  generalize hNN : rcN (a + p0) (b + p1) (c + p2) (e + p3) = N at hlen herr hN8 ⊢
  have h2 : RunIs _ _ _ _ _ _ _ _ _ _ _ := by_2 nK nC nA nB nF nM ks cs ka ca fs ms cl k r d v l gs lK cK lC cC lA cA lB cB lF cF lM cM fk fr fd fv gk gr gd gv q0 q1 q2 q3 a b c e (a + p0) (b + p1) (c + p2) (e + p3) N px
  refine TG_isN1 1 (XBy ⟨cl, k, r, d, v, l, gs⟩) mo (by kernel_rfl) h2 (fun p hp => ?_) ?_
  · rcases List.mem_append.1 hp with hp | hp
    · exact hf5 p hp
    · exact asC_ok (md := ⟨cl, k, r, d, v, l, gs⟩) (by omega) herr hem p hp
  clear h2
  have hol : (outC cl k r d v l gs (a + p0) (b + p1) (c + p2) a b c e px).length = rcN a b c e * 4 := outR_len _ _
  generalize outC cl k r d v l gs (a + p0) (b + p1) (c + p2) a b c e px = ox at hol ⊢
  generalize rcN a b c e = M at hM8 hol ⊢
  show TG Try.prog 6 Try.f10.ntmps tlBy _ _
  refine TG_seq' (by kernel_rfl) ?_
  have h3 : RunIs _ _ _ _ _ _ _ _ _ _ _ := by_3 nK nC nA nB nF nM ks cs ka ca fs ms cl k r d v l gs lK cK lC cC lA cA lB cB lF cF lM cM fk fr fd fv gk gr gd gv q0 q1 q2 q3 a b c e (a + p0) (b + p1) (c + p2) (e + p3) N px M ox
  refine TG_isSeq (XBy ⟨cl, k, r, d, v, l, gs⟩) mo anyR (by kernel_rfl) (by kernel_rfl) h3 fun g hg _ => ?_
  rw [List.mem_singleton] at hg; subst hg
  refine ⟨by simp, fun s' hs' => ?_⟩
  clear h3
  refine TG_block (i := 0) (by kernel_rfl) (TG_mono (Q1 := fun y s2 => y = .exit 0 ∧ ∃ i ow L, normG 6 L s2 = some (sQ2 nK nC nA nB nF nM ks cs ka ca fs ms cl k r d v l gs lK cK lC cC lA cA lB cB lF cF lM cM fk fr fd fv gk gr gd gv q0 q1 q2 q3 a b c e (a + p0) (b + p1) (c + p2) (e + p3) N px M ow i)) ?_ ?_)
  · refine TG_loop_inv (fun k' s => ∃ i, k' = M - i ∧ i ≤ M ∧ ∃ ow : List Int, ow.length = M * 4 ∧ ∃ L, normG 6 L s = some (sQ2 nK nC nA nB nF nM ks cs ka ca fs ms cl k r d v l gs lK cK lC cC lA cA lB cB lF cF lM cM fk fr fd fv gk gr gd gv q0 q1 q2 q3 a b c e (a + p0) (b + p1) (c + p2) (e + p3) N px M ow i)) (by kernel_rfl) ?_ M ⟨0, rfl, Nat.zero_le _, ox, hol, _, hs'⟩
    rintro k' s ⟨i, hk', hi, ow, how, L, hs⟩
    refine TG_norm hs ?_
    have h4 : RunIs _ _ _ _ _ _ _ _ _ _ _ := by_4 nK nC nA nB nF nM ks cs ka ca fs ms cl k r d v l gs lK cK lC cC lA cA lB cB lF cF lM cM fk fr fd fv gk gr gd gv q0 q1 q2 q3 a b c e (a + p0) (b + p1) (c + p2) (e + p3) N px M ow i
    refine TG_is (XBy ⟨cl, k, r, d, v, l, gs⟩) mo anyR (by kernel_rfl) h4 fun g hg hc => ?_
    simp only [List.mem_cons, List.not_mem_nil, or_false] at hg
    have hI : Int.ofNat i = (i : Int) := rfl
    have e0 : (Int.ofNat i).toNat = i := rfl
    rcases hg with rfl | rfl
    · have hlt : i < M := by
        have := of_decide_eq_true (hc _ (List.mem_singleton.2 rfl))
        rw [hI] at this; omega
      refine ⟨fun p hp => ?_, fun s' hs' => ⟨M - (i + 1), by omega, i + 1, rfl, by omega, _, prow_len ow M how hlt _ rfl, _, hs'⟩⟩
      simp only [List.mem_cons, List.not_mem_nil, or_false] at hp
      rcases hp with rfl | rfl | rfl
      · rw [hI]; omega
      · rw [e0]; omega
      · exact upN (by omega)
    · exact ⟨by simp, fun s' hs' => ⟨rfl, i, ow, _, hs'⟩⟩
  · rintro y s2 ⟨rfl, i, ow, L, hs2⟩
    rw [outOf_exit]
    simp only [andThen]
    refine TG_norm hs2 ?_
    have h5 : RunIs _ _ _ _ _ _ _ _ _ _ _ := by_5 nK nC nA nB nF nM ks cs ka ca fs ms cl k r d v l gs lK cK lC cC lA cA lB cB lF cF lM cM fk fr fd fv gk gr gd gv q0 q1 q2 q3 a b c e (a + p0) (b + p1) (c + p2) (e + p3) N px M ow i
    refine TG_ret (XBy ⟨cl, k, r, d, v, l, gs⟩) mo _ (by kernel_rfl) h5 fun g hg _ => ?_
    rw [List.mem_singleton] at hg; subst hg
    refine ⟨fun p hp => ?_, _, _, _, rfl, rfl⟩
    have cK' := cut30_le (ln nK lK)
    have cC' := cut30_le (ln nC lC)
    have cA' := cut30_le (ln nA lA)
    have cB' := cut30_le (ln nB lB)
    have f1 : glK cl l ≤ (grK cl gs).length := hf5 _ (by simp [fa5])
    have f2 : glK cl l ≤ 1000 := hf5 _ (by simp [fa5])
    have f3 : glC cl l ≤ (grC cl gs).length := hf5 _ (by simp [fa5])
    have f4 : glC cl l ≤ 1000 := hf5 _ (by simp [fa5])
    have fa : ∀ {n1 n2 : Bool} {a1 a2 : Nat} {y1 y2 : List Int}, ln n1 a1 ≤ (rw' n1 y1).length → ln n2 a2 ≤ (rw' n2 y2).length → ∀ p ∈ fa0 (cu n1 a1) (rw' n1 y1) (cu n2 a2) (rw' n2 y2), p := fun {n1 n2 a1 a2 y1 y2} h1 h2 p hp => by
      have c1 := cut30_le (ln n1 a1)
      have c2 := cut30_le (ln n2 a2)
      have u1 : cu n1 a1 = cut30 (ln n1 a1) := rfl
      have u2 : cu n2 a2 = cut30 (ln n2 a2) := rfl
      rw [u1, u2] at hp
      simp only [fa0, List.mem_cons, List.not_mem_nil, or_false] at hp
      rcases hp with rfl | rfl | rfl | rfl <;> omega
    unfold by5 at hp
    rcases List.mem_cons.1 hp with rfl | hp
    · exact c60_ok kF
    rcases List.mem_cons.1 hp with rfl | hp
    · rw [c60_eq]; exact hmd
    rcases List.mem_append.1 hp with hp | hp
    · simp only [smOk, List.mem_cons, List.not_mem_nil, or_false] at hp
      rcases hp with rfl | rfl | rfl | rfl | rfl | rfl
      · first | trivial | exact ⟨rfl, rfl, rfl, rfl⟩
      · first | trivial | rfl
      · omega
      · omega
      · omega
      · first | trivial | exact fun _ _ => rfl | exact fun _ _ => trivial
    rcases List.mem_append.1 hp with hp | hp
    · simp only [eqF6, List.mem_cons, List.not_mem_nil, or_false] at hp
      rcases hp with rfl | rfl | rfl | rfl | rfl | rfl
      · exact f1
      · exact f3
      · exact f1
      · exact f3
      · exact f2
      · exact f4
    rcases List.mem_cons.1 hp with rfl | hp
    · exact pBq_t (eq_self' ..)
    rcases List.mem_append.1 hp with hp | hp
    · exact fa hK hC p hp
    rcases List.mem_append.1 hp with hp | hp
    · exact fa hA hB p hp
    have uK : cu nK lK = cut30 (ln nK lK) := rfl
    have uC : cu nC lC = cut30 (ln nC lC) := rfl
    have uA : cu nA lA = cut30 (ln nA lA) := rfl
    have uB : cu nB lB = cut30 (ln nB lB) := rfl
    rcases List.mem_append.1 hp with hp | hp
    · simp only [eqF6, List.mem_cons, List.not_mem_nil, or_false] at hp
      rcases hp with rfl | rfl | rfl | rfl | rfl | rfl
      · rw [uK]; omega
      · rw [uC]; omega
      · rw [uA]; omega
      · rw [uB]; omega
      · rw [uK]; omega
      · rw [uC]; omega
    rcases List.mem_cons.1 hp with rfl | hp
    · refine pBq_t (bytes_eq rf rg rK rC rA rB ?_ ?_ ?_ ?_ ?_ ?_ ?_ ?_)
      · rw [uK]; omega
      · rw [uC]; omega
      · rw [uA]; omega
      · rw [uB]; omega
      · rw [uK]; omega
      · rw [uC]; omega
      · rw [uA]; omega
      · rw [uB]; omega
    rcases List.mem_append.1 hp with hp | hp
    · exact hf5 p hp
    rcases List.mem_append.1 hp with hp | hp
    · exact hf5 p hp
    · rw [List.mem_singleton] at hp; subst hp
      exact pBq_t (beqB_self _)
end
end Go.Proofs.Ytadejpmecljjpaa
