/- Filter laws anew, part ZO: the places that a valid filter reads. No conditions. -/
import Derived.Test.YtadejpmecljjpaaFlTwelve
set_option linter.unusedVariables false
set_option linter.unusedSimpArgs false
set_option linter.unusedSectionVars false
namespace Go.Proofs.Ytadejpmecljjpaa
open Go Go.Eng
theorem kd_rk {k : Int} (h : k = 2 ∨ k = 3 ∨ k = 4) : kdOf k = .rk := by rcases h with rfl | rfl | rfl <;> rfl
theorem win_place (x y : Int) (R : Nat) {i : Nat} (h : i < (2 * R + 1) * (2 * R + 1)) :
    ∃ x' y' : Int, x - R ≤ x' ∧ x' ≤ x + R ∧ y - R ≤ y' ∧ y' ≤ y + R ∧ ∀ X0 Y0 X1, winI X0 Y0 X1 x y R i = idxE X0 Y0 X1 x' y' := by
  have h1 : i % (2 * R + 1) < 2 * R + 1 := Nat.mod_lt _ (by omega)
  have h2 : i / (2 * R + 1) < 2 * R + 1 := Nat.div_lt_of_lt_mul h
  refine ⟨x - Int.ofNat R + Int.ofNat (i % (2 * R + 1)), y - Int.ofNat R + Int.ofNat (i / (2 * R + 1)), ?_, ?_, ?_, ?_, fun _ _ _ => rfl⟩
  all_goals
    generalize i % (2 * R + 1) = u at h1 ⊢
    generalize i / (2 * R + 1) = t at h2 ⊢
    have e1 : Int.ofNat u = (u : Int) := rfl
    have e2 : Int.ofNat t = (t : Int) := rfl
    have e3 : Int.ofNat R = (R : Int) := rfl
    omega
theorem apP_eq (kd : Kd) (X0 Y0 X1 a b c k r d v : Int) (lC : Nat) (ks cs px : List Int) (i : Nat) : apP kd false false X0 Y0 X1 a b c k r d v lC ks cs px i =
    clQ (kdF k r d v ks lC cs kd fun m => pixQ px (wix X0 Y0 X1 r v (a + Int.ofNat (i % (c - a).toNat)) (b + Int.ofNat (i / (c - a).toNat)) kd m)) := by
  unfold apP apQ
  rw [kdQ_eq]
theorem idx_nat {X0 Y0 X1 Y1 x y : Int} (h0 : m20 X0) (h1 : m20 Y0) (h2 : m20 X1) (h3 : m20 Y1) (x1 : X0 ≤ x) (x2 : x < X1) (y1 : Y0 ≤ y) (y2 : y < Y1) :
    idxE X0 Y0 X1 x y = Int.ofNat ((y - Y0).toNat * (X1 - X0).toNat + (x - X0).toNat) ∧ (y - Y0).toNat * (X1 - X0).toNat + (x - X0).toNat < rcN X0 Y0 X1 Y1 := by
  obtain ⟨g1, g2, g3⟩ := idx_in h0 h1 h2 h3 x1 x2 y1 y2
  have e : idxE X0 Y0 X1 x y = Int.ofNat ((y - Y0).toNat * (X1 - X0).toNat + (x - X0).toNat) := by
    rw [g1]
    show _ = (((y - Y0).toNat * (X1 - X0).toNat + (x - X0).toNat : Nat) : Int)
    rw [Int.natCast_add, Int.natCast_mul, Int.toNat_of_nonneg (show 0 ≤ y - Y0 by omega), Int.toNat_of_nonneg (show 0 ≤ X1 - X0 by omega), Int.toNat_of_nonneg (show 0 ≤ x - X0 by omega)]
  refine ⟨e, ?_⟩
  have e2 : (X1 - X0) * (Y1 - Y0) = ((rcN X0 Y0 X1 Y1 : Nat) : Int) := by
    unfold rcN
    rw [Int.natCast_mul, Int.toNat_of_nonneg (show 0 ≤ Y1 - Y0 by omega), Int.toNat_of_nonneg (show 0 ≤ X1 - X0 by omega), Int.mul_comm]
  rw [e, e2] at g3
  exact Int.ofNat_lt.1 g3
theorem putI_len {px : List Int} {o : Nat} {l : List Int} (h : o + l.length ≤ px.length) : (putI px o l).length = px.length := by
  unfold putI
  rw [List.length_append, List.length_append, List.length_take, List.length_drop]; omega
end Go.Proofs.Ytadejpmecljjpaa
namespace Go.Proofs.Ytadejpmecljjpaa
open Go Go.Eng
abbrev z4 : List Int := [0, 0, 0, 0]
end Go.Proofs.Ytadejpmecljjpaa
namespace Go.Proofs.Ytadejpmecljjpaa
open Go Go.Eng
section
variable (cl : Cl) (k r d v : Int) (l : Nat) (gs : List Int)
end
theorem errC_ok {k r d v : Int} {lK : Nat} {ks : List Int} {lC : Nat} {cs : List Int} (hv : validB k r d v lK ks lC cs = true) {X0 Y0 X1 Y1 a b c e p0 p1 p2 p3 : Int} {N : Nat} (hA : areaQ true k r v a b c e (-1) = (a + p0, b + p1, c + p2, e + p3))
    (m0 : m20 X0) (m1 : m20 Y0) (m2 : m20 X1) (m3 : m20 Y1) (n0 : m20 a) (n1 : m20 b) (n2 : m20 c) (n3 : m20 e) (hX : X0 < X1) (hY : Y0 < Y1) (hx : a < c) (hy : b < e) (hN : N = rcN X0 Y0 X1 Y1) (hsz : rcN a b c e ≤ 262144)
    (i0 : X0 ≤ a + p0) (i1 : c + p2 ≤ X1) (i2 : Y0 ≤ b + p1) (i3 : e + p3 ≤ Y1) : apErr X0 Y0 X1 Y1 a b c e N k r d v lK ks lC cs = 0 :=
  aE_of hv (adm_ok m0 m1 m2 m3) (by rw [hN]; exact rcN_eq m0 m1 m2 m3 hX hY) (adm_ok n0 n1 n2 n3) (by rw [← rcN_eq n0 n1 n2 n3 hx hy]; omega) (by rw [hA]; exact insB_ok i0 i1 i2 i3)
theorem rcN_20 {a b c e : Int} (h1 : c ≤ a + 20) (h2 : e ≤ b + 20) : rcN a b c e ≤ 400 := by
  unfold rcN
  exact Nat.mul_le_mul (show (e - b).toNat ≤ 20 by omega) (show (c - a).toNat ≤ 20 by omega)
def g4 (l : List Int) (t : Nat) : Q4 := (l.getD t 0, l.getD (t + 1) 0, l.getD (t + 2) 0, l.getD (t + 3) 0)
def q4E (q s : Q4) : Bool := q.1 == s.1 && (q.2.1 == s.2.1 && (q.2.2.1 == s.2.2.1 && (q.2.2.2 == s.2.2.2 && true)))
theorem q4E_self (q : Q4) : q4E q q = true := by simp [q4E]
theorem g4_out (p : Nat → Q4) {M i : Nat} (h : i < M) : g4 (outR p M) (0 + i * 4) = p i := by
  obtain ⟨h1, h2, h3, h4⟩ := outR_get p M i h
  unfold g4
  rw [Nat.zero_add, h1, h2, h3, h4]
theorem g4_pix (l : List Int) (i : Nat) : g4 l (0 + i * 4) = pixQ l (Int.ofNat i) := rfl
theorem ap_place {k r v : Int} {p0 p1 p2 p3 : Int} (hp : ∀ (x y : Int) (i : Nat), i < sq r → ∃ x' y' : Int, x + p0 ≤ x' ∧ x' ≤ x + p2 ∧ y + p1 ≤ y' ∧ y' ≤ y + p3 ∧ ∀ X0 Y0 X1, wix X0 Y0 X1 r v x y (kdOf k) i = idxE X0 Y0 X1 x' y')
    {a b c e : Int} (ha : m20 a) (hb : m20 b) (hc : m20 c) (he : m20 e) {i : Nat} (h : i < rcN a b c e) (j : Nat) (hj : j < sq r) :
    ∃ x' y' : Int, a + p0 ≤ x' ∧ x' < c + p2 ∧ b + p1 ≤ y' ∧ y' < e + p3 ∧ (a + Int.ofNat (i % (c - a).toNat) + p0 ≤ x' ∧ x' ≤ a + Int.ofNat (i % (c - a).toNat) + p2 ∧ b + Int.ofNat (i / (c - a).toNat) + p1 ≤ y' ∧ y' ≤ b + Int.ofNat (i / (c - a).toNat) + p3) ∧
      ∀ X0 Y0 X1, wix X0 Y0 X1 r v (a + Int.ofNat (i % (c - a).toNat)) (b + Int.ofNat (i / (c - a).toNat)) (kdOf k) j = idxE X0 Y0 X1 x' y' := by
  obtain ⟨_, h1, h2⟩ := idx_ab ha hb hc he h
  have z1 : (0 : Int) ≤ Int.ofNat (i % (c - a).toNat) := Int.natCast_nonneg _
  have z2 : (0 : Int) ≤ Int.ofNat (i / (c - a).toNat) := Int.natCast_nonneg _
  obtain ⟨x', y', g1, g2, g3, g4, g5⟩ := hp (a + Int.ofNat (i % (c - a).toNat)) (b + Int.ofNat (i / (c - a).toNat)) j hj
  exact ⟨x', y', by omega, by omega, by omega, by omega, ⟨g1, g2, g3, g4⟩, g5⟩
end Go.Proofs.Ytadejpmecljjpaa
