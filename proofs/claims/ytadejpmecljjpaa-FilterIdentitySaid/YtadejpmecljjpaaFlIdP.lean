/- FilterIdentity: the plain law: filters that change nothing. No conditions. -/
import Derived.Test.YtadejpmecljjpaaFlIdB
set_option linter.unusedVariables false
set_option linter.unusedSimpArgs false
set_option linter.unusedSectionVars false
namespace Go.Proofs.Ytadejpmecljjpaa
open Go Go.Eng
structure Cln (q : Q4) : Prop where
  r : 0 ≤ q.1 ∧ q.1 ≤ 255
  g : 0 ≤ q.2.1 ∧ q.2.1 ≤ 255
  b : 0 ≤ q.2.2.1 ∧ q.2.2.1 ≤ 255
  a : 0 ≤ q.2.2.2 ∧ q.2.2.2 ≤ 255
  c : clQ q = q
theorem Cln.zero {q : Q4} (h : Cln q) (ha : q.2.2.2 = 0) : q = (0, 0, 0, 0) := by
  have := h.c
  unfold clQ at this
  rw [if_pos ha] at this
  exact this.symm
theorem cln_z : Cln (0, 0, 0, 0) := ⟨⟨Int.le_refl _, by show (0 : Int) ≤ 255; omega⟩, ⟨Int.le_refl _, by show (0 : Int) ≤ 255; omega⟩, ⟨Int.le_refl _, by show (0 : Int) ≤ 255; omega⟩, ⟨Int.le_refl _, by show (0 : Int) ≤ 255; omega⟩, rfl⟩
theorem madeA_rng (x : Int) : 0 ≤ madeA x ∧ madeA x ≤ 255 := by
  unfold madeA
  split
  · omega
  · split
    · omega
    · exact u8w_rng _
theorem imgQ_cln (l : Nat) (ss : List Int) (i : Nat) : Cln (imgQ l ss i) := by
  unfold imgQ
  by_cases h : (madeQ (imgN l ss i)).2.2.2 = 0
  · have : clQ (madeQ (imgN l ss i)) = (0, 0, 0, 0) := by unfold clQ; rw [if_pos h]
    rw [this]; exact cln_z
  · have e : clQ (madeQ (imgN l ss i)) = madeQ (imgN l ss i) := by unfold clQ; rw [if_neg h]
    exact ⟨by rw [e]; exact u8w_rng _, by rw [e]; exact u8w_rng _, by rw [e]; exact u8w_rng _, by rw [e]; exact madeA_rng _, clQ_id _⟩
section
variable {k r d v : Int} {ks : List Int} {lC : Nat} {cs : List Int} {g : Nat → Q4}
theorem off_id (h : Cln (g 0)) : clQ (kdF k r d v ks lC cs .off g) = g 0 := h.c
theorem ton_ok {x : Int} (h : 0 ≤ x ∧ x ≤ 255) : tonC lineL 257 x = x := by
  obtain ⟨u, rfl⟩ := Int.eq_ofNat_of_zero_le h.1
  have h1 := List.all_eq_true.1 ton_all u (List.mem_range.2 (by omega))
  exact of_decide_eq_true h1
theorem ton_id (h : Cln (g 0)) : clQ (kdF k r d v ks 257 lineL .ton g) = g 0 := by
  have e : kdF k r d v ks 257 lineL .ton g = g 0 := by
    show (tonC lineL 257 (g 0).1, tonC lineL 257 (g 0).2.1, tonC lineL 257 (g 0).2.2.1, u8w (w64 (g 0).2.2.2)) = _
    rw [ton_ok h.r, ton_ok h.g, ton_ok h.b, w64_u8 h.a, u8w_u8 h.a]
  rw [e]; exact h.c
theorem sq0 : sq 0 = 1 := rfl
theorem rkI1 (k : Int) : rkI k 1 = 0 := by
  unfold rkI
  split
  · rfl
  · split <;> rfl
theorem rkC1 {f : Q4 → Int} (h : 0 ≤ f (g 0) ∧ f (g 0) ≤ 255) : rkC k f g (sq 0) = f (g 0) := by
  unfold rkC
  rw [sq0, rkI1]
  have e : sortI (rkF f g 1) = [f (g 0)] := by
    have : rkF f g 1 = [w64 (f (g 0))] := rfl
    rw [this, w64_u8 h]
    exact List.mergeSort_singleton _
  rw [e]
  exact u8w_u8 h
theorem rk_id (h : Cln (g 0)) : clQ (kdF k 0 d v ks lC cs .rk g) = g 0 := by
  have e : kdF k 0 d v ks lC cs .rk g = g 0 := by
    show (rkC k (·.1) g (sq 0), rkC k (·.2.1) g (sq 0), rkC k (·.2.2.1) g (sq 0), rkC k (·.2.2.2) g (sq 0)) = _
    rw [rkC1 h.r, rkC1 h.g, rkC1 h.b, rkC1 (f := (·.2.2.2)) h.a]
  rw [e]; exact h.c
def iv2 (q : Q4) : Q4 := if q.2.2.2 = 0 then (0, 0, 0, 0) else (255 - q.1, 255 - q.2.1, 255 - q.2.2.1, q.2.2.2)
theorem iv_eq (h : Cln (g 0)) : clQ (kdF k r d v ks lC cs .inv g) = iv2 (g 0) := by
  have e : kdF k r d v ks lC cs .inv g = (255 - (g 0).1, 255 - (g 0).2.1, 255 - (g 0).2.2.1, (g 0).2.2.2) := by
    show (invC (g 0).1, invC (g 0).2.1, invC (g 0).2.2.1, u8w (w64 (g 0).2.2.2)) = _
    rw [invC_u8 h.r, invC_u8 h.g, invC_u8 h.b, w64_u8 h.a, u8w_u8 h.a]
  rw [e]; rfl
theorem iv2_cln {q : Q4} (h : Cln q) : Cln (iv2 q) := by
  by_cases q0 : q.2.2.2 = 0
  · have : iv2 q = (0, 0, 0, 0) := by unfold iv2; rw [if_pos q0]
    rw [this]; exact cln_z
  · have e : iv2 q = (255 - q.1, 255 - q.2.1, 255 - q.2.2.1, q.2.2.2) := by unfold iv2; rw [if_neg q0]
    obtain ⟨⟨a1, a2⟩, ⟨b1, b2⟩, ⟨c1, c2⟩, ⟨d1, d2⟩, _⟩ := h
    rw [e]
    refine ⟨⟨?_, ?_⟩, ⟨?_, ?_⟩, ⟨?_, ?_⟩, ⟨d1, d2⟩, ?_⟩
    · show 0 ≤ 255 - q.1; omega
    · show 255 - q.1 ≤ 255; omega
    · show 0 ≤ 255 - q.2.1; omega
    · show 255 - q.2.1 ≤ 255; omega
    · show 0 ≤ 255 - q.2.2.1; omega
    · show 255 - q.2.2.1 ≤ 255; omega
    · unfold clQ; exact if_neg q0
theorem iv2_iv2 {q : Q4} (h : Cln q) : iv2 (iv2 q) = q := by
  by_cases q0 : q.2.2.2 = 0
  · rw [h.zero q0]; rfl
  · have e : iv2 q = (255 - q.1, 255 - q.2.1, 255 - q.2.2.1, q.2.2.2) := by unfold iv2; rw [if_neg q0]
    rw [e]
    have e2 : iv2 (255 - q.1, 255 - q.2.1, 255 - q.2.2.1, q.2.2.2) = (255 - (255 - q.1), 255 - (255 - q.2.1), 255 - (255 - q.2.2.1), q.2.2.2) := if_neg q0
    rw [e2]
    have z : ∀ x : Int, 255 - (255 - x) = x := fun x => by omega
    rw [z, z, z]
theorem mul_le_mul' {a b A B : Int} (h1 : 0 ≤ a) (h2 : a ≤ A) (h3 : 0 ≤ b) (h4 : b ≤ B) : 0 ≤ a * b ∧ a * b ≤ A * B := ⟨Int.mul_nonneg h1 h3, Int.mul_le_mul h2 h4 h3 (by omega)⟩
def wT (dv : Int) (q : Q4) : Q4 := (dv * q.2.2.2 * q.1, dv * q.2.2.2 * q.2.1, dv * q.2.2.2 * q.2.2.1, dv * q.2.2.2)
theorem step_one {ks : List Int} {c : Nat} {dv : Int} (hd : 1 ≤ dv ∧ dv ≤ 256) (hc : ks.getD (0 + c * 1) 0 = dv) (q : Q4) (h : Cln q) : stepF ks c q (0, 0, 0, 0) = wT dv q := by
  obtain ⟨a1, a2⟩ := mul_le_mul' (a := dv) (A := 256) (by omega) hd.2 h.a.1 h.a.2
  obtain ⟨r1, r2⟩ := mul_le_mul' a1 a2 h.r.1 h.r.2
  obtain ⟨g1, g2⟩ := mul_le_mul' a1 a2 h.g.1 h.g.2
  obtain ⟨b1, b2⟩ := mul_le_mul' a1 a2 h.b.1 h.b.2
  have e0 : (Int.ofNat c).toNat = c := rfl
  have eA : w64 (dv * q.2.2.2) = dv * q.2.2.2 := w64_id (by omega) (by omega)
  unfold stepF wT
  simp only [e0, hc, w64_u8 h.a, w64_u8 h.r, w64_u8 h.g, w64_u8 h.b, Int.zero_add, Int.mul_one, eA]
  generalize dv * q.2.2.2 = A at *
  have eR : w64 (A * q.1) = A * q.1 := w64_id (by omega) (by omega)
  have eG : w64 (A * q.2.1) = A * q.2.1 := w64_id (by omega) (by omega)
  have eB : w64 (A * q.2.2.1) = A * q.2.2.1 := w64_id (by omega) (by omega)
  rw [eR, eR, eG, eG, eB, eB]
theorem step_zero {ks : List Int} {c : Nat} (hc : ks.getD (0 + c * 1) 0 = 0) (p S : Q4) (hS : -1000000000 ≤ S.1 ∧ S.1 ≤ 1000000000) (hG : -1000000000 ≤ S.2.1 ∧ S.2.1 ≤ 1000000000) (hB : -1000000000 ≤ S.2.2.1 ∧ S.2.2.1 ≤ 1000000000) (hA : -1000000000 ≤ S.2.2.2 ∧ S.2.2.2 ≤ 1000000000) : stepF ks c p S = S := by
  have e0 : (Int.ofNat c).toNat = c := rfl
  unfold stepF
  simp only [e0, hc, Int.zero_mul, w64_0, Int.add_zero]
  rw [w64_id (x := S.1) (by omega) (by omega), w64_id (x := S.2.1) (by omega) (by omega), w64_id (x := S.2.2.1) (by omega) (by omega), w64_id (x := S.2.2.2) (by omega) (by omega)]
theorem cvF_one {ks : List Int} {c : Nat} {dv : Int} {g : Nat → Q4} (hd : 1 ≤ dv ∧ dv ≤ 256) (hc : ks.getD (0 + c * 1) 0 = dv) (h0 : ∀ j, j ≠ c → ks.getD (0 + j * 1) 0 = 0) (h : Cln (g c)) : ∀ m, cvF ks g m = if m ≤ c then (0, 0, 0, 0) else wT dv (g c)
  | 0 => rfl
  | m + 1 => by
    have ih := cvF_one (g := g) hd hc h0 h m
    show stepF ks m (g m) (cvF ks g m) = _
    rw [ih]
    obtain ⟨a1, a2⟩ := mul_le_mul' (a := dv) (A := 256) (by omega) hd.2 h.a.1 h.a.2
    obtain ⟨r1, r2⟩ := mul_le_mul' a1 a2 h.r.1 h.r.2
    obtain ⟨g1, g2⟩ := mul_le_mul' a1 a2 h.g.1 h.g.2
    obtain ⟨b1, b2⟩ := mul_le_mul' a1 a2 h.b.1 h.b.2
    rcases Nat.lt_trichotomy m c with q | q | q
    · rw [if_pos (by omega), if_pos (by omega)]
      exact step_zero (h0 m (by omega)) _ _ ⟨by decide, by decide⟩ ⟨by decide, by decide⟩ ⟨by decide, by decide⟩ ⟨by decide, by decide⟩
    · subst q
      rw [if_pos (by omega), if_neg (by omega)]
      exact step_one hd hc _ h
    · rw [if_neg (by omega), if_neg (by omega)]
      refine step_zero (h0 m (by omega)) _ _ ⟨?_, ?_⟩ ⟨?_, ?_⟩ ⟨?_, ?_⟩ ⟨?_, ?_⟩
      · show -1000000000 ≤ dv * (g c).2.2.2 * (g c).1; omega
      · show dv * (g c).2.2.2 * (g c).1 ≤ 1000000000; omega
      · show -1000000000 ≤ dv * (g c).2.2.2 * (g c).2.1; omega
      · show dv * (g c).2.2.2 * (g c).2.1 ≤ 1000000000; omega
      · show -1000000000 ≤ dv * (g c).2.2.2 * (g c).2.2.1; omega
      · show dv * (g c).2.2.2 * (g c).2.2.1 ≤ 1000000000; omega
      · show -1000000000 ≤ dv * (g c).2.2.2; omega
      · show dv * (g c).2.2.2 ≤ 1000000000; omega
theorem round_one {A x : Int} (hA : 1 ≤ A) (hA2 : A ≤ 70000) (hx : 0 ≤ x) (hx2 : x ≤ 255) : roundI (A * x) A = x := by
  obtain ⟨r1, r2⟩ := mul_le_mul' (a := A) (A := 70000) (by omega) hA2 hx hx2
  rw [roundI_pos (by omega) (by omega) (by omega) (by omega)]
  have e : (2 * (A * x) + A) / (2 * A) = x := by
    have e1 : 2 * (A * x) + A = A + (2 * A) * x := by rw [Int.mul_assoc]; omega
    rw [e1, Int.add_mul_ediv_left _ _ (by omega), Int.ediv_eq_zero_of_lt (by omega) (by omega), Int.zero_add]
  rw [e, if_neg (by omega)]
theorem rep1_zero : ∀ n t, (repI [0] n).getD t 0 = 0
  | 0, _ => rfl
  | n + 1, 0 => rfl
  | n + 1, t + 1 => rep1_zero n t
theorem rep1_len : ∀ n, (repI [0] n).length = n
  | 0 => rfl
  | n + 1 => by
    show (repI [0] n).length + 1 = n + 1
    rw [rep1_len n]
theorem ker_get (n : Nat) (dv : Int) (t : Nat) : (kerL n dv).getD t 0 = if t = kK n / 2 then dv else 0 := by
  unfold kerL
  have h1 : 0 < kK n := Nat.mul_pos (by omega) (by omega)
  rw [putI_get (by rw [rep1_len]; omega), rep1_zero]
  simp only [Nat.zero_add, Nat.mul_one]
theorem cv_id {n : Nat} {dv : Int} (hd : 1 ≤ dv ∧ dv ≤ 256) {g : Nat → Q4} (h : Cln (g (kK n / 2))) (hk : sq k = kK n) {lC : Nat} {cs : List Int} {v : Int} : clQ (kdF 1 k dv v (kerL n dv) lC cs .cv g) = g (kK n / 2) := by
  have h1 : 0 < kK n := Nat.mul_pos (by omega) (by omega)
  have ec := cvF_one (ks := kerL n dv) (c := kK n / 2) (g := g) hd (by rw [ker_get, if_pos (by omega)]) (fun j hj => by rw [ker_get, if_neg (by omega)]) h (kK n)
  rw [if_neg (by omega)] at ec
  show clQ (cvQ dv (cvF (kerL n dv) g (sq k))) = _
  rw [hk, ec]
  generalize g (kK n / 2) = q at h ⊢
  obtain ⟨a1, a2⟩ := mul_le_mul' (a := dv) (A := 256) (by omega) hd.2 h.a.1 h.a.2
  have e4 : roundI (dv * q.2.2.2) dv = q.2.2.2 := round_one hd.1 (by omega) h.a.1 h.a.2
  unfold cvQ
  show clQ (if roundI (dv * q.2.2.2) dv = 0 then _ else (u8w (roundI (dv * q.2.2.2 * q.1) (dv * q.2.2.2)), u8w (roundI (dv * q.2.2.2 * q.2.1) (dv * q.2.2.2)), u8w (roundI (dv * q.2.2.2 * q.2.2.1) (dv * q.2.2.2)), u8w (roundI (dv * q.2.2.2) dv))) = q
  rw [e4]
  by_cases q0 : q.2.2.2 = 0
  · rw [if_pos q0, h.zero q0]; rfl
  · have ha := h.a
    have a3 : 1 ≤ dv * q.2.2.2 := by
      have := Int.mul_le_mul hd.1 (show 1 ≤ q.2.2.2 by omega) (by omega) (by omega)
      rw [Int.one_mul] at this; exact this
    rw [if_neg q0, round_one a3 (by omega) h.r.1 h.r.2, round_one a3 (by omega) h.g.1 h.g.2, round_one a3 (by omega) h.b.1 h.b.2, u8w_u8 h.r, u8w_u8 h.g, u8w_u8 h.b, u8w_u8 h.a]
    exact h.c
end
end Go.Proofs.Ytadejpmecljjpaa
