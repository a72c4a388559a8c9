/- FilterBytes: the contract of Equal. No conditions. -/
import Derived.Test.YtadejpmecljjpaaFlByA
set_option linter.unusedVariables false
set_option linter.unusedSimpArgs false
set_option linter.unusedSectionVars false
namespace Go.Proofs.Ytadejpmecljjpaa
open Go Go.Eng
def eqP (k r d v : Int) (lK : Nat) (ks : List Int) (lC : Nat) (cs : List Int) (k' r' d' v' : Int) (lA : Nat) (ka : List Int) (lB : Nat) (ca : List Int) : Prop :=
  k = k' ∧ r = r' ∧ d = d' ∧ v = v' ∧ lK = lA ∧ lC = lB ∧ (∀ i, i < lK → gD ks i = gD ka i) ∧ ∀ i, i < lC → gD cs i = gD ca i
open Classical in
noncomputable def eqFB (k r d v : Int) (lK : Nat) (ks : List Int) (lC : Nat) (cs : List Int) (k' r' d' v' : Int) (lA : Nat) (ka : List Int) (lB : Nat) (ca : List Int) : Bool := decide (eqP k r d v lK ks lC cs k' r' d' v' lA ka lB ca)
theorem eqFB_t {k r d v : Int} {lK : Nat} {ks : List Int} {lC : Nat} {cs : List Int} {k' r' d' v' : Int} {lA : Nat} {ka : List Int} {lB : Nat} {ca : List Int} (h : eqP k r d v lK ks lC cs k' r' d' v' lA ka lB ca) : eqFB k r d v lK ks lC cs k' r' d' v' lA ka lB ca = true := by
  exact @decide_eq_true _ (Classical.propDecidable _) h
theorem eqFB_f {k r d v : Int} {lK : Nat} {ks : List Int} {lC : Nat} {cs : List Int} {k' r' d' v' : Int} {lA : Nat} {ka : List Int} {lB : Nat} {ca : List Int} (h : ¬ eqP k r d v lK ks lC cs k' r' d' v' lA ka lB ca) : eqFB k r d v lK ks lC cs k' r' d' v' lA ka lB ca = false := by
  exact @decide_eq_false _ (Classical.propDecidable _) h
theorem neI_t {x y : Int} (h : neI x y = true) : x ≠ y := by
  intro q; rw [q] at h; simp [neI] at h
theorem neI_f {x y : Int} (h : neI x y = false) : x = y := bne_eq_false_iff_eq.1 h
section
variable (nK nC nA nB : Bool) (k r d v k' r' d' v' : Int) (lK cK zK lC cC zC lA cA zA lB cB zB : Nat) (ks cs ka ca : List Int)
abbrev REq : V → Tr O → Nat → Prop := fun u _ _ => u = .bool (eqFB k r d v lK ks lC cs k' r' d' v' lA ka lB ca)
structure EqOk : Prop where
  nk : nK = true → lK = 0
  nc : nC = true → lC = 0
  na : nA = true → lA = 0
  nb : nB = true → lB = 0
  lk : lK ≤ ks.length
  lc : lC ≤ cs.length
  la : lA ≤ ka.length
  lb : lB ≤ ca.length
  sk : lK ≤ 1000
  sc : lC ≤ 1000
variable (h : EqOk nK nC nA nB lK lC lA lB ks cs ka ca)
include h
theorem eq_l1 (hl : lK = lA) (s : St) (hs : ∃ L, normG 4 L s = some (sEq1 nK nC nA nB k r d v k' r' d' v' lK cK zK lC cC zC lA cA zA lB cB zB ks cs ka ca 0)) :
    TG Try.prog 4 Try.f36.ntmps (inner (seqR l1Eq)) s (fun y s2 => (y = .ret ∧ RetG Try.prog 4 Try.f36 (REq k r d v k' r' d' v' lK lC lA lB ks cs ka ca) .ret s2) ∨ (y = .exit 0 ∧ (∀ j, j < lK → gD ks j = gD ka j) ∧ ∃ i L, normG 4 L s2 = some (sEq1 nK nC nA nB k r d v k' r' d' v' lK cK zK lC cC zC lA cA zA lB cB zB ks cs ka ca i))) := by
  obtain ⟨nk, nc, na, nb, lk, lc, la, lb, sk, sc⟩ := h
  obtain ⟨L0, hs0⟩ := hs
  refine TG_loop_inv (fun k'' s => ∃ i, k'' = lK - i ∧ i ≤ lK ∧ (∀ j, j < i → gD ks j = gD ka j) ∧ ∃ L, normG 4 L s = some (sEq1 nK nC nA nB k r d v k' r' d' v' lK cK zK lC cC zC lA cA zA lB cB zB ks cs ka ca i)) (by kernel_rfl) ?_ lK ⟨0, rfl, Nat.zero_le _, fun j hj => by omega, L0, hs0⟩
  rintro k'' s ⟨i, hk', hi, heq, L, hs⟩
  refine TG_norm hs ?_
  have key : lK = 0 → TG Try.prog 4 Try.f36.ntmps (inner (inner (seqR l1Eq))) (sEq1 nK nC nA nB k r d v k' r' d' v' lK cK zK lC cC zC lA cA zA lB cB zB ks cs ka ca i) (andThen (fun s' => ∃ k2, k2 < k'' ∧ ∃ i, k2 = lK - i ∧ i ≤ lK ∧ (∀ j, j < i → gD ks j = gD ka j) ∧ ∃ L, normG 4 L s' = some (sEq1 nK nC nA nB k r d v k' r' d' v' lK cK zK lC cC zC lA cA zA lB cB zB ks cs ka ca i))
      fun y s2 => (y = .ret ∧ RetG Try.prog 4 Try.f36 (REq k r d v k' r' d' v' lK lC lA lB ks cs ka ca) .ret s2) ∨ (y = .exit 0 ∧ (∀ j, j < lK → gD ks j = gD ka j) ∧ ∃ i L, normG 4 L s2 = some (sEq1 nK nC nA nB k r d v k' r' d' v' lK cK zK lC cC zC lA cA zA lB cB zB ks cs ka ca i))) := by
    intro h0
    obtain rfl : i = 0 := by omega
    subst h0
    refine TG_is XH mo anyR (by kernel_rfl) (eq_40 nK nC nA nB k r d v k' r' d' v' cK zK lC cC zC lA cA zA lB cB zB ks cs ka ca) fun g hg hc => ?_
    rw [List.mem_singleton] at hg; subst hg
    exact ⟨by simp, fun s' hs' => .inr ⟨rfl, fun j hj => by omega, 0, _, hs'⟩⟩
  cases nK with
  | true => exact key (nk rfl)
  | false =>
    cases nA with
    | true => exact key (by rw [hl]; exact na rfl)
    | false =>
      refine TG_is XH mo (REq k r d v k' r' d' v' lK lC lA lB ks cs ka ca) (by kernel_rfl) (eq_4 nC nB k r d v k' r' d' v' lK cK zK lC cC zC lA cA zA lB cB zB ks cs ka ca i) fun g hg hc => ?_
      simp only [List.mem_cons, List.not_mem_nil, or_false] at hg
      have hI : Int.ofNat i = (i : Int) := rfl
      have e0 : (Int.ofNat i).toNat = i := rfl
      have hA : i < lK → ∀ p ∈ eqA lK lA ks ka i, p := fun hlt p hp => by
        simp only [eqA, List.mem_cons, List.not_mem_nil, or_false] at hp
        rcases hp with rfl | rfl | rfl | rfl
        · rw [hI]; omega
        · rw [e0]; omega
        · rw [hI]; omega
        · rw [e0]; omega
      have hlt' : (decide (Int.ofNat i < (lK : Int)) = true) → i < lK := fun q => by
        have := of_decide_eq_true q
        rw [hI] at this; omega
      rcases hg with rfl | rfl | rfl
      · have hlt := hlt' (hc (decide (Int.ofNat i < (lK : Int)), true) (by simp))
        have hne := neI_t (hc (neI (gD ks i) (gD ka i), true) (by simp))
        refine ⟨hA hlt, ?_, fun s' hs' => .inl ⟨rfl, hs'⟩⟩
        show V.bool false = _
        rw [eqFB_f fun q => hne (q.2.2.2.2.2.2.1 i hlt)]
      · have hlt := hlt' (hc (decide (Int.ofNat i < (lK : Int)), true) (by simp))
        have heq2 := neI_f (hc (neI (gD ks i) (gD ka i), false) (by simp))
        refine ⟨fun p hp => ?_, fun s' hs' => ⟨lK - (i + 1), by omega, i + 1, rfl, by omega, fun j hj => ?_, _, hs'⟩⟩
        · rcases List.mem_append.1 hp with hp | hp
          · exact hA hlt p hp
          · rw [List.mem_singleton] at hp; subst hp; exact upN (by omega)
        · by_cases q : j = i
          · rw [q]; exact heq2
          · exact heq j (by omega)
      · have hge : i = lK := by
          have := of_decide_eq_false (hc (decide (Int.ofNat i < (lK : Int)), false) (by simp))
          rw [hI] at this; omega
        exact ⟨by simp, fun s' hs' => .inr ⟨rfl, fun j hj => heq j (by omega), i, _, hs'⟩⟩
theorem eq_l2 (hl : lC = lB) (s : St) (hs : ∃ L, normG 4 L s = some (sEq2 nK nC nA nB k r d v k' r' d' v' lK cK zK lC cC zC lA cA zA lB cB zB ks cs ka ca 0)) :
    TG Try.prog 4 Try.f36.ntmps (inner (seqR l2Eq)) s (fun y s2 => (y = .ret ∧ RetG Try.prog 4 Try.f36 (REq k r d v k' r' d' v' lK lC lA lB ks cs ka ca) .ret s2) ∨ (y = .exit 2 ∧ (∀ j, j < lC → gD cs j = gD ca j) ∧ ∃ i L, normG 4 L s2 = some (sEq2 nK nC nA nB k r d v k' r' d' v' lK cK zK lC cC zC lA cA zA lB cB zB ks cs ka ca i))) := by
  obtain ⟨nk, nc, na, nb, lk, lc, la, lb, sk, sc⟩ := h
  obtain ⟨L0, hs0⟩ := hs
  refine TG_loop_inv (fun k'' s => ∃ i, k'' = lC - i ∧ i ≤ lC ∧ (∀ j, j < i → gD cs j = gD ca j) ∧ ∃ L, normG 4 L s = some (sEq2 nK nC nA nB k r d v k' r' d' v' lK cK zK lC cC zC lA cA zA lB cB zB ks cs ka ca i)) (by kernel_rfl) ?_ lC ⟨0, rfl, Nat.zero_le _, fun j hj => by omega, L0, hs0⟩
  rintro k'' s ⟨i, hk', hi, heq, L, hs⟩
  refine TG_norm hs ?_
  have key : lC = 0 → TG Try.prog 4 Try.f36.ntmps (inner (inner (seqR l2Eq))) (sEq2 nK nC nA nB k r d v k' r' d' v' lK cK zK lC cC zC lA cA zA lB cB zB ks cs ka ca i) (andThen (fun s' => ∃ k2, k2 < k'' ∧ ∃ i, k2 = lC - i ∧ i ≤ lC ∧ (∀ j, j < i → gD cs j = gD ca j) ∧ ∃ L, normG 4 L s' = some (sEq2 nK nC nA nB k r d v k' r' d' v' lK cK zK lC cC zC lA cA zA lB cB zB ks cs ka ca i))
      fun y s2 => (y = .ret ∧ RetG Try.prog 4 Try.f36 (REq k r d v k' r' d' v' lK lC lA lB ks cs ka ca) .ret s2) ∨ (y = .exit 2 ∧ (∀ j, j < lC → gD cs j = gD ca j) ∧ ∃ i L, normG 4 L s2 = some (sEq2 nK nC nA nB k r d v k' r' d' v' lK cK zK lC cC zC lA cA zA lB cB zB ks cs ka ca i))) := by
    intro h0
    obtain rfl : i = 0 := by omega
    subst h0
    refine TG_is XH mo anyR (by kernel_rfl) (eq_60 nK nC nA nB k r d v k' r' d' v' lK cK zK cC zC lA cA zA lB cB zB ks cs ka ca) fun g hg hc => ?_
    rw [List.mem_singleton] at hg; subst hg
    exact ⟨by simp, fun s' hs' => .inr ⟨rfl, fun j hj => by omega, 0, _, hs'⟩⟩
  cases nC with
  | true => exact key (nc rfl)
  | false =>
    cases nB with
    | true => exact key (by rw [hl]; exact nb rfl)
    | false =>
      refine TG_is XH mo (REq k r d v k' r' d' v' lK lC lA lB ks cs ka ca) (by kernel_rfl) (eq_6 nK nA k r d v k' r' d' v' lK cK zK lC cC zC lA cA zA lB cB zB ks cs ka ca i) fun g hg hc => ?_
      simp only [List.mem_cons, List.not_mem_nil, or_false] at hg
      have hI : Int.ofNat i = (i : Int) := rfl
      have e0 : (Int.ofNat i).toNat = i := rfl
      have hA : i < lC → ∀ p ∈ eqA lC lB cs ca i, p := fun hlt p hp => by
        simp only [eqA, List.mem_cons, List.not_mem_nil, or_false] at hp
        rcases hp with rfl | rfl | rfl | rfl
        · rw [hI]; omega
        · rw [e0]; omega
        · rw [hI]; omega
        · rw [e0]; omega
      have hlt' : (decide (Int.ofNat i < (lC : Int)) = true) → i < lC := fun q => by
        have := of_decide_eq_true q
        rw [hI] at this; omega
      rcases hg with rfl | rfl | rfl
      · have hlt := hlt' (hc (decide (Int.ofNat i < (lC : Int)), true) (by simp))
        have hne := neI_t (hc (neI (gD cs i) (gD ca i), true) (by simp))
        refine ⟨hA hlt, ?_, fun s' hs' => .inl ⟨rfl, hs'⟩⟩
        show V.bool false = _
        rw [eqFB_f fun q => hne (q.2.2.2.2.2.2.2 i hlt)]
      · have hlt := hlt' (hc (decide (Int.ofNat i < (lC : Int)), true) (by simp))
        have heq2 := neI_f (hc (neI (gD cs i) (gD ca i), false) (by simp))
        refine ⟨fun p hp => ?_, fun s' hs' => ⟨lC - (i + 1), by omega, i + 1, rfl, by omega, fun j hj => ?_, _, hs'⟩⟩
        · rcases List.mem_append.1 hp with hp | hp
          · exact hA hlt p hp
          · rw [List.mem_singleton] at hp; subst hp; exact upN (by omega)
        · by_cases q : j = i
          · rw [q]; exact heq2
          · exact heq j (by omega)
      · have hge : i = lC := by
          have := of_decide_eq_false (hc (decide (Int.ofNat i < (lC : Int)), false) (by simp))
          rw [hI] at this; omega
        exact ⟨by simp, fun s' hs' => .inr ⟨rfl, fun j hj => heq j (by omega), i, _, hs'⟩⟩
theorem tgEq : TG Try.prog 4 Try.f36.ntmps cdEq (stEq nK nC nA nB k r d v k' r' d' v' lK cK zK lC cC zC lA cA zA lB cB zB ks cs ka ca) (RetG Try.prog 4 Try.f36 (REq k r d v k' r' d' v' lK lC lA lB ks cs ka ca)) := by
  have eK : lN nK lK = lK := by
    cases nK with
    | true => exact (h.nk rfl).symm
    | false => rfl
  have eC : lN nC lC = lC := by
    cases nC with
    | true => exact (h.nc rfl).symm
    | false => rfl
  have eA : lN nA lA = lA := by
    cases nA with
    | true => exact (h.na rfl).symm
    | false => rfl
  have eB : lN nB lB = lB := by
    cases nB with
    | true => exact (h.nb rfl).symm
    | false => rfl
  refine TG_isN1 1 XH mo (by kernel_rfl) (eq_1 nK nC nA nB k r d v k' r' d' v' lK cK zK lC cC zC lA cA zA lB cB zB ks cs ka ca) (by simp) ?_
  have h2 := eq_2 nK nC nA nB k r d v k' r' d' v' lK cK zK lC cC zC lA cA zA lB cB zB ks cs ka ca
  rw [eK, eC, eA, eB] at h2
  have fl : ∀ {x : Prop}, (eqP k r d v lK ks lC cs k' r' d' v' lA ka lB ca → x) → ¬ x → V.bool false = V.bool (eqFB k r d v lK ks lC cs k' r' d' v' lA ka lB ca) := fun hx hn => by rw [eqFB_f fun q => hn (hx q)]
  refine TG_isSeq XH mo (REq k r d v k' r' d' v' lK lC lA lB ks cs ka ca) (by kernel_rfl) (by kernel_rfl) h2 fun g hg hc => ?_
  simp only [List.mem_cons, List.not_mem_nil, or_false] at hg
  rcases hg with rfl | rfl | rfl | rfl | rfl | rfl | rfl
  · have h1 := neI_t (hc (neI k k', true) (by simp))
    exact ⟨by simp, fl (fun q => q.1) h1, fun s' hs' => hs'⟩
  · have h1 := neI_t (hc (neI r r', true) (by simp))
    exact ⟨by simp, fl (fun q => q.2.1) h1, fun s' hs' => hs'⟩
  · have h1 := neI_t (hc (neI d d', true) (by simp))
    exact ⟨by simp, fl (fun q => q.2.2.1) h1, fun s' hs' => hs'⟩
  · have h1 := neI_t (hc (neI v v', true) (by simp))
    exact ⟨by simp, fl (fun q => q.2.2.2.1) h1, fun s' hs' => hs'⟩
  · have h1 := neI_t (hc (neI (lK : Int) (lA : Int), true) (by simp))
    exact ⟨by simp, fl (x := lK = lA) (fun q => q.2.2.2.2.1) (fun q => h1 (by rw [q])), fun s' hs' => hs'⟩
  · have h1 := neI_t (hc (neI (lC : Int) (lB : Int), true) (by simp))
    exact ⟨by simp, fl (x := lC = lB) (fun q => q.2.2.2.2.2.1) (fun q => h1 (by rw [q])), fun s' hs' => hs'⟩
  have hk := neI_f (hc (neI k k', false) (by simp))
  have hr := neI_f (hc (neI r r', false) (by simp))
  have hd := neI_f (hc (neI d d', false) (by simp))
  have hv := neI_f (hc (neI v v', false) (by simp))
  have hlK : lK = lA := by
    have := neI_f (hc (neI (lK : Int) (lA : Int), false) (by simp))
    omega
  have hlC : lC = lB := by
    have := neI_f (hc (neI (lC : Int) (lB : Int), false) (by simp))
    omega
  refine ⟨by simp, fun s' hs' => TG_norm hs' ?_⟩
  refine TG_seq' (by kernel_rfl) ?_
  refine TG_isSeq XH mo anyR (by kernel_rfl) (by kernel_rfl) (eq_3 nK nC nA nB k r d v k' r' d' v' lK cK zK lC cC zC lA cA zA lB cB zB ks cs ka ca) fun g hg _ => ?_
  rw [List.mem_singleton] at hg; subst hg
  refine ⟨by simp, fun s' hs' => ?_⟩
  refine TG_block (i := 0) (by kernel_rfl) (TG_mono (eq_l1 nK nC nA nB k r d v k' r' d' v' lK cK zK lC cC zC lA cA zA lB cB zB ks cs ka ca h hlK s' ⟨_, hs'⟩) ?_)
  rintro y s2 (⟨rfl, hret⟩ | ⟨rfl, hK, i, L, hs2⟩)
  · exact hret
  rw [outOf_exit]
  simp only [andThen]
  refine TG_norm hs2 ?_
  refine TG_seq' (by kernel_rfl) ?_
  refine TG_isSeq XH mo anyR (by kernel_rfl) (by kernel_rfl) (eq_5 nK nC nA nB k r d v k' r' d' v' lK cK zK lC cC zC lA cA zA lB cB zB ks cs ka ca i) fun g hg _ => ?_
  rw [List.mem_singleton] at hg; subst hg
  refine ⟨by simp, fun s' hs' => ?_⟩
  refine TG_block (i := 2) (by kernel_rfl) (TG_mono (eq_l2 nK nC nA nB k r d v k' r' d' v' lK cK zK lC cC zC lA cA zA lB cB zB ks cs ka ca h hlC s' ⟨_, hs'⟩) ?_)
  rintro y s2 (⟨rfl, hret⟩ | ⟨rfl, hC, i, L, hs2⟩)
  · exact hret
  rw [outOf_exit]
  simp only [andThen]
  refine TG_norm hs2 ?_
  refine TG_ret XH mo _ (by kernel_rfl) (eq_7 nK nC nA nB k r d v k' r' d' v' lK cK zK lC cC zC lA cA zA lB cB zB ks cs ka ca i) fun g hg _ => ?_
  rw [List.mem_singleton] at hg; subst hg
  refine ⟨by simp, _, _, _, rfl, ?_⟩
  show V.bool true = _
  rw [eqFB_t ⟨hk, hr, hd, hv, hlK, hlC, hK, hC⟩]
end
noncomputable def specEq : List V → Tr O → Option (List Prop × V)
  | [.agg [.int .i64 k, .int .i64 r, sK, .int .i64 d, .int .i64 v, sC], .agg [.int .i64 k', .int .i64 r', sA, .int .i64 d', .int .i64 v', sB]], h => match rowK .i64 1 h sK, rowK .i64 1 h sC, rowK .i64 1 h sA, rowK .i64 1 h sB with
    | some (_, lK, ks), some (_, lC, cs), some (_, lA, ka), some (_, lB, ca) => some ([lK ≤ ks.length, lC ≤ cs.length, lA ≤ ka.length, lB ≤ ca.length, lK ≤ 1000, lC ≤ 1000], .bool (eqFB k r d v lK ks lC cs k' r' d' v' lA ka lB ca))
    | _, _, _, _ => none
  | _, _ => none
theorem one_Eq : PureA Try.prog 36 specEq := by
  refine ⟨Nat.le_of_ble_eq_true (by kernel_rfl), fun args h A u e => ?_⟩
  unfold specEq at e
  split at e
  case h_2 => cases e
  rename_i k r sK d v sC k' r' sA d' v' sB
  split at e
  case h_2 => cases e
  rename_i aK lK ks aC lC cs aA lA ka aB lB ca hK hC hA' hB
  simp only [Option.some.injEq, Prod.mk.injEq] at e; obtain ⟨rfl, rfl⟩ := e
  refine ⟨rfl, fun hA E n w args' ra g hd hc => ?_⟩
  obtain ⟨nK, cK, zK, RK⟩ := rowArg hK
  obtain ⟨nC, cC, zC, RC⟩ := rowArg hC
  obtain ⟨nA, cA, zA, RA⟩ := rowArg hA'
  obtain ⟨nB, cB, zB, RB⟩ := rowArg hB
  obtain ⟨y, ys, r0, ⟨y2, ys2, r1, rs, rfl⟩, rfl⟩ := ra
  have rs : ys2 = [] := rs
  subst rs
  obtain ⟨g2, d2, n2⟩ := rows_ok g [aK, aC, aA, aB] [rwK nK .i64 ks, rwK nC .i64 cs, rwK nA .i64 ka, rwK nB .i64 ca] (Nat.le_of_ble_eq_true rfl) (by
    intro j k' ks' hj
    match j, hj with
    | 0, hj => obtain ⟨m, o, full, rfl, q⟩ := RK.row k' ks' (Option.some.inj hj); exact ⟨m, o, full, rfl, q⟩
    | 1, hj => obtain ⟨m, o, full, rfl, q⟩ := RC.row k' ks' (Option.some.inj hj); exact ⟨m, o, full, rfl, q⟩
    | 2, hj => obtain ⟨m, o, full, rfl, q⟩ := RA.row k' ks' (Option.some.inj hj); exact ⟨m, o, full, rfl, q⟩
    | 3, hj => obtain ⟨m, o, full, rfl, q⟩ := RB.row k' ks' (Option.some.inj hj); exact ⟨m, o, full, rfl, q⟩
    | j + 4, hj => simp at hj)
  have hok : EqOk nK nC nA nB lK lC lA lB ks cs ka ca := ⟨fun q => (RK.nl q).1, fun q => (RC.nl q).1, fun q => (RA.nl q).1, fun q => (RB.nl q).1, hA _ (by simp), hA _ (by simp), hA _ (by simp), hA _ (by simp), hA _ (by simp), hA _ (by simp)⟩
  exact read_calls mo po Try.func36 (code := cdEq) (by kernel_rfl) (by kernel_rfl) (tgEq nK nC nA nB k r d v k' r' d' v' lK cK zK lC cC zC lA cA zA lB cB zB ks cs ka ca hok) (E := E.rows [aK, aC, aA, aB]) g2 d2 n2
    ⟨y, _, fl_rel (fun z q => RK.rel E _ 0 z rfl q) (fun z q => RC.rel E _ 1 z rfl q) r0, ⟨y2, [], fl_rel (fun z q => RA.rel E _ 2 z rfl q) (fun z q => RB.rel E _ 3 z rfl q) r1, rfl, rfl⟩, rfl⟩
end Go.Proofs.Ytadejpmecljjpaa
