/- Filter laws anew, part ZL: a method as a function of the pixels that it reads; what the laws call. No conditions. -/
import Derived.Test.YtadejpmecljjpaaFlEleven
set_option linter.unusedVariables false
set_option linter.unusedSimpArgs false
set_option linter.unusedSectionVars false
namespace Go.Proofs.Ytadejpmecljjpaa
open Go Go.Eng
def wix (X0 Y0 X1 r v x y : Int) (kd : Kd) (m : Nat) : Int := match kd with
  | .cv => winI X0 Y0 X1 x y r.toNat m
  | .rk => winI X0 Y0 X1 x y r.toNat m
  | .off => offI X0 Y0 X1 x y r v
  | _ => idxE X0 Y0 X1 x y
def stepF (ks : List Int) (m : Nat) (p : Q4) (S : Q4) : Q4 :=
  (w64 (S.1 + w64 (w64 (ks.getD (0 + (Int.ofNat m).toNat * 1) 0 * w64 p.2.2.2) * w64 p.1)), w64 (S.2.1 + w64 (w64 (ks.getD (0 + (Int.ofNat m).toNat * 1) 0 * w64 p.2.2.2) * w64 p.2.1)), w64 (S.2.2.1 + w64 (w64 (ks.getD (0 + (Int.ofNat m).toNat * 1) 0 * w64 p.2.2.2) * w64 p.2.2.1)), w64 (S.2.2.2 + w64 (w64 (ks.getD (0 + (Int.ofNat m).toNat * 1) 0 * w64 p.2.2.2) * 1)))
def cvF (ks : List Int) (g : Nat → Q4) : Nat → Q4
  | 0 => (0, 0, 0, 0)
  | m + 1 => stepF ks m (g m) (cvF ks g m)
def rkF (f : Q4 → Int) (g : Nat → Q4) (m : Nat) : List Int := (List.range m).map fun i => w64 (f (g i))
def rkC (k : Int) (f : Q4 → Int) (g : Nat → Q4) (m : Nat) : Int := u8w ((sortI (rkF f g m)).getD (rkI k m) 0)
def kdF (k r d v : Int) (ks : List Int) (lC : Nat) (cs : List Int) (kd : Kd) (g : Nat → Q4) : Q4 := match kd with
  | .cv => cvQ d (cvF ks g (sq r))
  | .ton => (tonC cs lC (g 0).1, tonC cs lC (g 0).2.1, tonC cs lC (g 0).2.2.1, u8w (w64 (g 0).2.2.2))
  | .inv => (invC (g 0).1, invC (g 0).2.1, invC (g 0).2.2.1, u8w (w64 (g 0).2.2.2))
  | .thr => if decide (w64 (w64 (w64 (g 0).1 + w64 (g 0).2.1) + w64 (g 0).2.2.1) ≥ w64 (3 * v)) = true then (255, 255, 255, u8w (w64 (g 0).2.2.2)) else (0, 0, 0, u8w (w64 (g 0).2.2.2))
  | .off => g 0
  | .rk => (rkC k (·.1) g (sq r), rkC k (·.2.1) g (sq r), rkC k (·.2.2.1) g (sq r), rkC k (·.2.2.2) g (sq r))
theorem cvF_eq (ks px : List Int) (w : Nat → Int) : ∀ m, cvS ks px w m = cvF ks (fun i => pixQ px (w i)) m
  | 0 => rfl
  | m + 1 => by
    simp only [cvS, cvF, cvF_eq ks px w m]
    rfl
theorem kdQ_eq (X0 Y0 X1 : Int) (px : List Int) (k r d v : Int) (ks : List Int) (lC : Nat) (cs : List Int) (x y : Int) (kd : Kd) :
    kdQ X0 Y0 X1 px k r d v ks lC cs x y kd = kdF k r d v ks lC cs kd (fun m => pixQ px (wix X0 Y0 X1 r v x y kd m)) := by
  cases kd with
  | cv => show cvQ d (cvS ks px (winI X0 Y0 X1 x y r.toNat) (sq r)) = cvQ d _; rw [cvF_eq]; rfl
  | _ => rfl
theorem cvF_congr {ks : List Int} {g g' : Nat → Q4} : ∀ m, (∀ i, i < m → g i = g' i) → cvF ks g m = cvF ks g' m
  | 0, _ => rfl
  | m + 1, h => by simp only [cvF, cvF_congr m (fun i hi => h i (by omega)), h m (by omega)]
theorem sq_pos (r : Int) : 0 < sq r := Nat.mul_pos (by omega) (by omega)
end Go.Proofs.Ytadejpmecljjpaa
namespace Go.Proofs.Ytadejpmecljjpaa
open Go Go.Eng
def imO (pos : Nat) (X0 Y0 X1 Y1 : Int) (N : Nat) : O := .cells [.int .i64 X0, .int .i64 Y0, .int .i64 X1, .int .i64 Y1, .slc (some (pos, 0)) N N 4]
def fbO (pos : Nat) (k r d v : Int) (cl : Cl) (l : Nat) : O := .cells [.int .i64 k, .int .i64 r, mkK cl pos l, .int .i64 d, .int .i64 v, mkC cl pos l]
section
variable (nF nM : Bool) (fs ms : List Int) (cl : Cl) (k r d v : Int) (l : Nat) (gs : List Int) (a b c e X0 Y0 X1 Y1 : Int) (N : Nat) (px : List Int)
end
def rcE (q : Q4) (a b c e : Int) : Bool := q.1 == a && (q.2.1 == b && (q.2.2.1 == c && (q.2.2.2 == e && true)))
theorem rcE_self (a b c e : Int) : rcE (a, b, c, e) a b c e = true := by simp [rcE]
theorem outA_eq {m : Nat} {ot : List Int} {q : Q4} (h : ot.length = m * 4) : outA m ot q = ot ++ q4l q := by
  unfold outA
  rw [List.drop_zero, List.take_of_length_le (by omega)]; rfl
theorem getD_left {l l' : List Int} {i : Nat} (h : i < l.length) : (l ++ l').getD i 0 = l.getD i 0 := by
  rw [List.getD_eq_getElem?_getD, List.getD_eq_getElem?_getD, List.getElem?_append_left h]
theorem getD_right {l l' : List Int} {i : Nat} : (l ++ l').getD (l.length + i) 0 = l'.getD i 0 := by
  rw [List.getD_eq_getElem?_getD, List.getD_eq_getElem?_getD, List.getElem?_append_right (by omega), Nat.add_sub_cancel_left]
theorem outR_get (p : Nat → Q4) : ∀ (M i : Nat), i < M → (outR p M).getD (i * 4) 0 = (p i).1 ∧ (outR p M).getD (i * 4 + 1) 0 = (p i).2.1 ∧ (outR p M).getD (i * 4 + 2) 0 = (p i).2.2.1 ∧ (outR p M).getD (i * 4 + 3) 0 = (p i).2.2.2
  | 0, _, h => by omega
  | M + 1, i, h => by
    have hl := outR_len p M
    have e : outR p (M + 1) = outR p M ++ q4l (p M) := outA_eq hl
    rw [e]
    by_cases q : i < M
    · obtain ⟨h1, h2, h3, h4⟩ := outR_get p M i q
      rw [getD_left (by omega), getD_left (by omega), getD_left (by omega), getD_left (by omega)]
      exact ⟨h1, h2, h3, h4⟩
    · have : i = M := by omega
      subst this
      rw [← hl]
      refine ⟨?_, ?_, ?_, ?_⟩
      · have := getD_right (l := outR p i) (l' := q4l (p i)) (i := 0); rw [Nat.add_zero] at this; rw [this]; rfl
      · rw [getD_right]; rfl
      · rw [getD_right]; rfl
      · rw [getD_right]; rfl
theorem outR_pix (p : Nat → Q4) {M i : Nat} (h : i < M) : pixQ (outR p M) (Int.ofNat i) = p i := by
  obtain ⟨h1, h2, h3, h4⟩ := outR_get p M i h
  unfold pixQ pq
  have e : (Int.ofNat i).toNat = i := rfl
  simp only [e, Nat.zero_add, Nat.add_zero]
  rw [h1, h2, h3, h4]
theorem rcN_eq {a b c e : Int} (ha : m20 a) (hb : m20 b) (hc : m20 c) (he : m20 e) (h1 : a < c) (h2 : b < e) : (rcN a b c e : Int) = areI a b c e := by
  rw [areI_eq ha hb hc he h1 h2]
  unfold rcN
  rw [Int.natCast_mul, Int.toNat_of_nonneg (by omega), Int.toNat_of_nonneg (by omega), Int.mul_comm]
theorem areI_toNat {a b c e : Int} (ha : m20 a) (hb : m20 b) (hc : m20 c) (he : m20 e) (h1 : a < c) (h2 : b < e) : (areI a b c e).toNat = rcN a b c e := by
  rw [← rcN_eq ha hb hc he h1 h2]; rfl
end Go.Proofs.Ytadejpmecljjpaa
namespace Go.Proofs.Ytadejpmecljjpaa
open Go Go.Eng
theorem w64_mod (x : Int) : ∃ t : Int, w64 x = x + 18446744073709551616 * t := by
  unfold w64 IntKind.wrap
  have e1 : (2 ^ IntKind.i64.bits : Int) = 18446744073709551616 := by decide
  simp only [e1]
  split
  · exact ⟨-(x / 18446744073709551616) - 1, by omega⟩
  · exact ⟨-(x / 18446744073709551616), by omega⟩
theorem w64_rng (x : Int) : -9223372036854775808 ≤ w64 x ∧ w64 x < 9223372036854775808 := by
  unfold w64 IntKind.wrap
  have e1 : (2 ^ IntKind.i64.bits : Int) = 18446744073709551616 := by decide
  have e2 : (2 ^ (IntKind.i64.bits - 1) : Int) = 9223372036854775808 := by decide
  have e3 : IntKind.i64.signed = true := rfl
  simp only [e1, e2, e3, Bool.true_and, decide_eq_true_eq]
  split <;> omega
theorem w64_congr {x y t : Int} (h : x = y + 18446744073709551616 * t) : w64 x = w64 y := by
  obtain ⟨a, ha⟩ := w64_mod x
  obtain ⟨b, hb⟩ := w64_mod y
  have h1 := w64_rng x
  have h2 := w64_rng y
  omega
theorem w64_subL (u v : Int) : w64 (w64 u - v) = w64 (u - v) := by
  obtain ⟨t, h⟩ := w64_mod u
  exact w64_congr (t := t) (by omega)
theorem w64_addR (u v : Int) : w64 (u + w64 v) = w64 (u + v) := by
  obtain ⟨t, h⟩ := w64_mod v
  exact w64_congr (t := t) (by omega)
theorem idxE_wrap (X0 Y0 X1 x y : Int) : idxE X0 Y0 X1 (w64 x) (w64 y) = idxE X0 Y0 X1 x y := by
  unfold idxE
  rw [w64_subL y Y0, w64_subL, w64_subL]
  have e : w64 (w64 (y - Y0) * w64 (X1 - X0)) + w64 x - X0 = w64 (w64 (y - Y0) * w64 (X1 - X0)) - X0 + w64 x := by omega
  have e2 : w64 (w64 (y - Y0) * w64 (X1 - X0)) + x - X0 = w64 (w64 (y - Y0) * w64 (X1 - X0)) - X0 + x := by omega
  rw [e, e2, w64_addR]
theorem adm_ok {a b c d : Int} (h0 : m20 a) (h1 : m20 b) (h2 : m20 c) (h3 : m20 d) : admB a b c d = true := by
  unfold admB
  rw [within_iff'.2 h0, within_iff'.2 h1, within_iff'.2 h2, within_iff'.2 h3]; rfl
theorem insB_ok {a b c d e f g h : Int} (h1 : e ≤ a) (h2 : c ≤ g) (h3 : f ≤ b) (h4 : d ≤ h) : insB a b c d e f g h = true := by
  unfold insB
  rw [decide_eq_true h1, decide_eq_true h2, decide_eq_true h3, decide_eq_true h4]
  simp
end Go.Proofs.Ytadejpmecljjpaa
