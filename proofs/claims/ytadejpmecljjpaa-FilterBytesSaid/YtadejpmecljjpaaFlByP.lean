/- FilterBytes: the plain law: bytes tell the numbers. No conditions. -/
import Derived.Test.YtadejpmecljjpaaFlByD
set_option linter.unusedVariables false
set_option linter.unusedSimpArgs false
set_option linter.unusedSectionVars false
namespace Go.Proofs.Ytadejpmecljjpaa
open Go Go.Eng
def i64R (x : Int) : Prop := -9223372036854775808 ≤ x ∧ x < 9223372036854775808
theorem byte_inj {a b : Nat} (ha : a < 256) (hb : b < 256) (h : UInt8.ofNat a = UInt8.ofNat b) : a = b := by
  have := congrArg UInt8.toNat h
  simp at this
  omega
theorem varL_inj : ∀ (n u u' : Nat) (x y : List UInt8), u < 2 * 128 ^ n → u' < 2 * 128 ^ n → varL n u ++ x = varL n u' ++ y → u = u' ∧ x = y
  | 0, u, u', x, y, h1, h2, e => by
    simp only [varL, List.cons_append, List.nil_append, List.cons.injEq] at e
    simp only [Nat.pow_zero, Nat.mul_one] at h1 h2
    exact ⟨byte_inj (by omega) (by omega) e.1, e.2⟩
  | n + 1, u, u', x, y, h1, h2, e => by
    have hp : 2 * 128 ^ (n + 1) = 128 * (2 * 128 ^ n) := by rw [Nat.pow_succ]; omega
    rw [hp] at h1 h2
    simp only [varL] at e
    by_cases q : 128 ≤ u <;> by_cases q' : 128 ≤ u'
    · rw [if_pos q, if_pos q'] at e
      simp only [List.cons_append, List.cons.injEq] at e
      have e1 := byte_inj (by omega) (by omega) e.1
      obtain ⟨e2, e3⟩ := varL_inj n (u / 128) (u' / 128) x y (by omega) (by omega) e.2
      exact ⟨by omega, e3⟩
    · rw [if_pos q, if_neg q'] at e
      simp only [List.cons_append, List.nil_append, List.cons.injEq] at e
      have e1 := byte_inj (by omega) (by omega) e.1
      omega
    · rw [if_neg q, if_pos q'] at e
      simp only [List.cons_append, List.nil_append, List.cons.injEq] at e
      have e1 := byte_inj (by omega) (by omega) e.1
      omega
    · rw [if_neg q, if_neg q'] at e
      simp only [List.cons_append, List.nil_append, List.cons.injEq] at e
      exact ⟨byte_inj (by omega) (by omega) e.1, e.2⟩
theorem varS_inj {a b : Int} {x y : List UInt8} (ha : i64R a) (hb : i64R b) (e : varS a ++ x = varS b ++ y) : a = b ∧ x = y := by
  unfold varS at e
  rw [u64_wrap, u64_wrap] at e
  have h9 : 2 * 128 ^ 9 = 18446744073709551616 := by decide
  obtain ⟨h1, h2⟩ := varL_inj 9 _ _ x y (by rw [h9]; omega) (by rw [h9]; omega) e
  obtain ⟨a1, a2⟩ := ha
  obtain ⟨b1, b2⟩ := hb
  exact ⟨by omega, h2⟩
theorem nums_inj : ∀ (l l' : List Int) (x y : List UInt8), l.length = l'.length → (∀ a ∈ l, i64R a) → (∀ a ∈ l', i64R a) → numsS l ++ x = numsS l' ++ y → l = l' ∧ x = y
  | [], [], x, y, _, _, _, e => ⟨rfl, e⟩
  | [], _ :: _, x, y, h, _, _, _ => by simp at h
  | _ :: _, [], x, y, h, _, _, _ => by simp at h
  | a :: l, b :: l', x, y, h, ha, hb, e => by
    have e1 : varS a ++ (numsS l ++ x) = varS b ++ (numsS l' ++ y) := by
      have : ∀ (z : Int) (w : List Int), numsS (z :: w) = varS z ++ numsS w := fun z w => rfl
      rw [this, this, List.append_assoc, List.append_assoc] at e
      exact e
    obtain ⟨h1, h2⟩ := varS_inj (ha a (by simp)) (hb b (by simp)) e1
    obtain ⟨h3, h4⟩ := nums_inj l l' x y (by simpa using h) (fun z hz => ha z (by simp [hz])) (fun z hz => hb z (by simp [hz])) h2
    exact ⟨by rw [h1, h3], h4⟩
theorem bytes_inj {k r d v k' r' d' v' : Int} {K C K' C' : List Int} (hk : i64R k ∧ i64R r ∧ i64R d ∧ i64R v) (hk' : i64R k' ∧ i64R r' ∧ i64R d' ∧ i64R v') (hK : ∀ a ∈ K, i64R a) (hC : ∀ a ∈ C, i64R a) (hK' : ∀ a ∈ K', i64R a) (hC' : ∀ a ∈ C', i64R a)
    (l1 : K.length ≤ 1000) (l2 : C.length ≤ 1000) (l3 : K'.length ≤ 1000) (l4 : C'.length ≤ 1000) (e : bytesS k r d v K C = bytesS k' r' d' v' K' C') : k = k' ∧ r = r' ∧ d = d' ∧ v = v' ∧ K = K' ∧ C = C' := by
  have ln : ∀ n : Nat, n ≤ 1000 → i64R (Int.ofNat n) := fun n hn => by
    have : Int.ofNat n = (n : Int) := rfl
    rw [this]; exact ⟨by omega, by omega⟩
  have sp : ∀ (k r d v : Int) (K C : List Int), bytesS k r d v K C = numsS [k, r, Int.ofNat K.length] ++ (numsS K ++ (numsS [d, v, Int.ofNat C.length] ++ (numsS C ++ []))) := fun k r d v K C => by
    unfold bytesS flatF
    rw [numsS_app, numsS_app, numsS_app, List.append_nil, List.append_assoc, List.append_assoc]
  rw [sp, sp] at e
  obtain ⟨e1, e⟩ := nums_inj [k, r, Int.ofNat K.length] [k', r', Int.ofNat K'.length] _ _ rfl (by
    simp only [List.mem_cons, List.not_mem_nil, or_false]
    rintro a (rfl | rfl | rfl)
    · exact hk.1
    · exact hk.2.1
    · exact ln _ l1) (by
    simp only [List.mem_cons, List.not_mem_nil, or_false]
    rintro a (rfl | rfl | rfl)
    · exact hk'.1
    · exact hk'.2.1
    · exact ln _ l3) e
  simp only [List.cons.injEq, and_true] at e1
  have eK := Int.ofNat.inj e1.2.2
  obtain ⟨e2, e⟩ := nums_inj _ _ _ _ eK hK hK' e
  obtain ⟨e3, e⟩ := nums_inj [d, v, Int.ofNat C.length] [d', v', Int.ofNat C'.length] _ _ rfl (by
    simp only [List.mem_cons, List.not_mem_nil, or_false]
    rintro a (rfl | rfl | rfl)
    · exact hk.2.2.1
    · exact hk.2.2.2
    · exact ln _ l2) (by
    simp only [List.mem_cons, List.not_mem_nil, or_false]
    rintro a (rfl | rfl | rfl)
    · exact hk'.2.2.1
    · exact hk'.2.2.2
    · exact ln _ l4) e
  simp only [List.cons.injEq, and_true] at e3
  have eC := Int.ofNat.inj e3.2.2
  obtain ⟨e4, _⟩ := nums_inj _ _ _ _ eC hC hC' e
  exact ⟨e1.1, e1.2.1, e3.1, e3.2.1, e2, e4⟩
theorem take_gD {l : Nat} {x y : List Int} (hx : l ≤ x.length) (hy : l ≤ y.length) : x.take l = y.take l ↔ ∀ i, i < l → gD x i = gD y i := by
  have g : ∀ (w : List Int) (i : Nat), gD w i = w.getD i 0 := fun w i => by unfold gD; rw [Nat.zero_add, Nat.mul_one]
  constructor
  · intro h i hi
    rw [g, g, List.getD_eq_getElem?_getD, List.getD_eq_getElem?_getD]
    have h1 : (x.take l)[i]? = (y.take l)[i]? := by rw [h]
    rw [List.getElem?_take, List.getElem?_take, if_pos hi, if_pos hi] at h1
    rw [h1]
  · intro h
    apply List.ext_getElem
    · rw [List.length_take, List.length_take]; omega
    · intro i h1 h2
      rw [List.length_take] at h1
      have h3 := h i (by omega)
      rw [g, g, List.getD_eq_getElem?_getD, List.getD_eq_getElem?_getD, List.getElem?_eq_getElem (by omega), List.getElem?_eq_getElem (by omega)] at h3
      rw [List.getElem_take, List.getElem_take]
      exact h3
theorem beqB_self (a : List UInt8) : beqB a a = true := by rw [beqB_eq]; simp
theorem bytes_eq {k r d v k' r' d' v' : Int} {lK lC lA lB : Nat} {ks cs ka ca : List Int} (hk : i64R k ∧ i64R r ∧ i64R d ∧ i64R v) (hk' : i64R k' ∧ i64R r' ∧ i64R d' ∧ i64R v')
    (hK : ∀ a ∈ ks, i64R a) (hC : ∀ a ∈ cs, i64R a) (hA : ∀ a ∈ ka, i64R a) (hB : ∀ a ∈ ca, i64R a) (l1 : lK ≤ ks.length) (l2 : lC ≤ cs.length) (l3 : lA ≤ ka.length) (l4 : lB ≤ ca.length) (s1 : lK ≤ 1000) (s2 : lC ≤ 1000) (s3 : lA ≤ 1000) (s4 : lB ≤ 1000) :
    (beqB (byS lK ks lC cs k r d v) (byS lA ka lB ca k' r' d' v') == eqFB k r d v lK ks lC cs k' r' d' v' lA ka lB ca) = true := by
  by_cases h : eqP k r d v lK ks lC cs k' r' d' v' lA ka lB ca
  · rw [eqFB_t h]
    obtain ⟨rfl, rfl, rfl, rfl, rfl, rfl, h1, h2⟩ := h
    unfold byS
    rw [(take_gD l1 l3).2 h1, (take_gD l2 l4).2 h2, beqB_self]; rfl
  · rw [eqFB_f h]
    cases q : beqB (byS lK ks lC cs k r d v) (byS lA ka lB ca k' r' d' v') with
    | false => rfl
    | true =>
      rw [beqB_eq] at q
      have q := eq_of_beq q
      obtain ⟨e1, e2, e3, e4, e5, e6⟩ := bytes_inj hk hk' (fun a ha => hK a (List.mem_of_mem_take ha)) (fun a ha => hC a (List.mem_of_mem_take ha)) (fun a ha => hA a (List.mem_of_mem_take ha)) (fun a ha => hB a (List.mem_of_mem_take ha))
        (by rw [List.length_take]; omega) (by rw [List.length_take]; omega) (by rw [List.length_take]; omega) (by rw [List.length_take]; omega) q
      have n1 := congrArg List.length e5
      have n2 := congrArg List.length e6
      rw [List.length_take, List.length_take] at n1 n2
      have m1 : lK = lA := by omega
      have m2 : lC = lB := by omega
      refine absurd ⟨e1, e2, e3, e4, m1, m2, ?_, ?_⟩ h
      · rw [← m1] at e5 l3; exact (take_gD l1 l3).1 e5
      · rw [← m2] at e6 l4; exact (take_gD l2 l4).1 e6
theorem eq_self' (k r d v : Int) (lK : Nat) (ks : List Int) (lC : Nat) (cs : List Int) : eqFB k r d v lK ks lC cs k r d v lK ks lC cs = true := eqFB_t ⟨rfl, rfl, rfl, rfl, rfl, rfl, fun _ _ => rfl, fun _ _ => rfl⟩
end Go.Proofs.Ytadejpmecljjpaa
