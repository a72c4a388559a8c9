/- Filter laws anew, part ZL: a method as a function of the pixels that it reads; what the laws call. No conditions. -/
import Derived.Test.YtadejpmecljjpaaFlEleven
set_option linter.unusedVariables false
set_option linter.unusedSimpArgs false
set_option linter.unusedSectionVars false
namespace Go.Proofs.Ytadejpmecljjpaa
open Go Go.Eng
def wix (X0 Y0 X1 r v x y : Int) (kd : Kd) (m : Nat) : Int := match kd with
  | .cv => winI X0 Y0 X1 x y r.toNat m
  | .rk => winI X0 Y0 X1 x y r.toNat m
  | .off => offI X0 Y0 X1 x y r v
  | _ => idxE X0 Y0 X1 x y
noncomputable abbrev WL (md : Md) : CtrW := addW 15 (apSpec SOk) (addW 14 (specMade md) WH)
theorem WL_ok (md : Md) : CtrWOk Try.prog (WL md) := addW_ok one_ApOk (addW_ok (one_Made md) WH_ok)
end Go.Proofs.Ytadejpmecljjpaa
namespace Go.Proofs.Ytadejpmecljjpaa
open Go Go.Eng
def imO (pos : Nat) (X0 Y0 X1 Y1 : Int) (N : Nat) : O := .cells [.int .i64 X0, .int .i64 Y0, .int .i64 X1, .int .i64 Y1, .slc (some (pos, 0)) N N 4]
def fbO (pos : Nat) (k r d v : Int) (cl : Cl) (l : Nat) : O := .cells [.int .i64 k, .int .i64 r, mkK cl pos l, .int .i64 d, .int .i64 v, mkC cl pos l]
section
variable (nF nM : Bool) (fs ms : List Int) (cl : Cl) (k r d v : Int) (l : Nat) (gs : List Int) (a b c e X0 Y0 X1 Y1 : Int) (N : Nat) (px : List Int)
end
def rcE (q : Q4) (a b c e : Int) : Bool := q.1 == a && (q.2.1 == b && (q.2.2.1 == c && (q.2.2.2 == e && true)))
theorem rcE_self (a b c e : Int) : rcE (a, b, c, e) a b c e = true := by simp [rcE]
theorem rcN_eq {a b c e : Int} (ha : m20 a) (hb : m20 b) (hc : m20 c) (he : m20 e) (h1 : a < c) (h2 : b < e) : (rcN a b c e : Int) = areI a b c e := by
  rw [areI_eq ha hb hc he h1 h2]
  unfold rcN
  rw [Int.natCast_mul, Int.toNat_of_nonneg (by omega), Int.toNat_of_nonneg (by omega), Int.mul_comm]
theorem areI_toNat {a b c e : Int} (ha : m20 a) (hb : m20 b) (hc : m20 c) (he : m20 e) (h1 : a < c) (h2 : b < e) : (areI a b c e).toNat = rcN a b c e := by
  rw [← rcN_eq ha hb hc he h1 h2]; rfl
end Go.Proofs.Ytadejpmecljjpaa
namespace Go.Proofs.Ytadejpmecljjpaa
open Go Go.Eng
theorem w64_mod (x : Int) : ∃ t : Int, w64 x = x + 18446744073709551616 * t := by
  unfold w64 IntKind.wrap
  have e1 : (2 ^ IntKind.i64.bits : Int) = 18446744073709551616 := by decide
  simp only [e1]
  split
  · exact ⟨-(x / 18446744073709551616) - 1, by omega⟩
  · exact ⟨-(x / 18446744073709551616), by omega⟩
theorem w64_rng (x : Int) : -9223372036854775808 ≤ w64 x ∧ w64 x < 9223372036854775808 := by
  unfold w64 IntKind.wrap
  have e1 : (2 ^ IntKind.i64.bits : Int) = 18446744073709551616 := by decide
  have e2 : (2 ^ (IntKind.i64.bits - 1) : Int) = 9223372036854775808 := by decide
  have e3 : IntKind.i64.signed = true := rfl
  simp only [e1, e2, e3, Bool.true_and, decide_eq_true_eq]
  split <;> omega
theorem w64_congr {x y t : Int} (h : x = y + 18446744073709551616 * t) : w64 x = w64 y := by
  obtain ⟨a, ha⟩ := w64_mod x
  obtain ⟨b, hb⟩ := w64_mod y
  have h1 := w64_rng x
  have h2 := w64_rng y
  omega
theorem w64_subL (u v : Int) : w64 (w64 u - v) = w64 (u - v) := by
  obtain ⟨t, h⟩ := w64_mod u
  exact w64_congr (t := t) (by omega)
theorem w64_addR (u v : Int) : w64 (u + w64 v) = w64 (u + v) := by
  obtain ⟨t, h⟩ := w64_mod v
  exact w64_congr (t := t) (by omega)
theorem idxE_wrap (X0 Y0 X1 x y : Int) : idxE X0 Y0 X1 (w64 x) (w64 y) = idxE X0 Y0 X1 x y := by
  unfold idxE
  rw [w64_subL y Y0, w64_subL, w64_subL]
  have e : w64 (w64 (y - Y0) * w64 (X1 - X0)) + w64 x - X0 = w64 (w64 (y - Y0) * w64 (X1 - X0)) - X0 + w64 x := by omega
  have e2 : w64 (w64 (y - Y0) * w64 (X1 - X0)) + x - X0 = w64 (w64 (y - Y0) * w64 (X1 - X0)) - X0 + x := by omega
  rw [e, e2, w64_addR]
theorem adm_ok {a b c d : Int} (h0 : m20 a) (h1 : m20 b) (h2 : m20 c) (h3 : m20 d) : admB a b c d = true := by
  unfold admB
  rw [within_iff'.2 h0, within_iff'.2 h1, within_iff'.2 h2, within_iff'.2 h3]; rfl
theorem insB_ok {a b c d e f g h : Int} (h1 : e ≤ a) (h2 : c ≤ g) (h3 : f ≤ b) (h4 : d ≤ h) : insB a b c d e f g h = true := by
  unfold insB
  rw [decide_eq_true h1, decide_eq_true h2, decide_eq_true h3, decide_eq_true h4]
  simp
end Go.Proofs.Ytadejpmecljjpaa
