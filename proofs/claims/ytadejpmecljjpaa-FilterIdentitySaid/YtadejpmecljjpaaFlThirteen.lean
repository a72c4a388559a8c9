/- Filter laws anew, part ZO: the places that a valid filter reads. No conditions. -/
import Derived.Test.YtadejpmecljjpaaFlTwelve
set_option linter.unusedVariables false
set_option linter.unusedSimpArgs false
set_option linter.unusedSectionVars false
namespace Go.Proofs.Ytadejpmecljjpaa
open Go Go.Eng
theorem apP_eq (kd : Kd) (X0 Y0 X1 a b c k r d v : Int) (lC : Nat) (ks cs px : List Int) (i : Nat) : apP kd false false X0 Y0 X1 a b c k r d v lC ks cs px i =
    clQ (kdF k r d v ks lC cs kd fun m => pixQ px (wix X0 Y0 X1 r v (a + Int.ofNat (i % (c - a).toNat)) (b + Int.ofNat (i / (c - a).toNat)) kd m)) := by
  unfold apP apQ
  rw [kdQ_eq]
theorem idx_nat {X0 Y0 X1 Y1 x y : Int} (h0 : m20 X0) (h1 : m20 Y0) (h2 : m20 X1) (h3 : m20 Y1) (x1 : X0 ≤ x) (x2 : x < X1) (y1 : Y0 ≤ y) (y2 : y < Y1) :
    idxE X0 Y0 X1 x y = Int.ofNat ((y - Y0).toNat * (X1 - X0).toNat + (x - X0).toNat) ∧ (y - Y0).toNat * (X1 - X0).toNat + (x - X0).toNat < rcN X0 Y0 X1 Y1 := by
  obtain ⟨g1, g2, g3⟩ := idx_in h0 h1 h2 h3 x1 x2 y1 y2
  have e : idxE X0 Y0 X1 x y = Int.ofNat ((y - Y0).toNat * (X1 - X0).toNat + (x - X0).toNat) := by
    rw [g1]
    show _ = (((y - Y0).toNat * (X1 - X0).toNat + (x - X0).toNat : Nat) : Int)
    rw [Int.natCast_add, Int.natCast_mul, Int.toNat_of_nonneg (show 0 ≤ y - Y0 by omega), Int.toNat_of_nonneg (show 0 ≤ X1 - X0 by omega), Int.toNat_of_nonneg (show 0 ≤ x - X0 by omega)]
  refine ⟨e, ?_⟩
  have e2 : (X1 - X0) * (Y1 - Y0) = ((rcN X0 Y0 X1 Y1 : Nat) : Int) := by
    unfold rcN
    rw [Int.natCast_mul, Int.toNat_of_nonneg (show 0 ≤ Y1 - Y0 by omega), Int.toNat_of_nonneg (show 0 ≤ X1 - X0 by omega), Int.mul_comm]
  rw [e, e2] at g3
  exact Int.ofNat_lt.1 g3
theorem putI_len {px : List Int} {o : Nat} {l : List Int} (h : o + l.length ≤ px.length) : (putI px o l).length = px.length := by
  unfold putI
  rw [List.length_append, List.length_append, List.length_take, List.length_drop]; omega
end Go.Proofs.Ytadejpmecljjpaa
namespace Go.Proofs.Ytadejpmecljjpaa
open Go Go.Eng
theorem floorI_pos {a b : Int} (ha : 0 ≤ a) (hb : 0 < b) : floorI a b = w64 (a / b) := by
  unfold floorI
  rw [if_neg (by omega), if_neg (fun h => h.2 (by rw [decide_eq_false (by omega : ¬ a < 0), decide_eq_false (by omega : ¬ b < 0)])), Int.tdiv_eq_ediv_of_nonneg ha]
theorem roundI_pos {n d : Int} (hn : 0 ≤ n) (hn2 : n ≤ 1000000000000000000) (hd : 0 < d) (hd2 : d ≤ 1000000000000000000) : roundI n d = if (2 * n + d) / (2 * d) > 255 then 255 else (2 * n + d) / (2 * d) := by
  have e1 : w64 (w64 (2 * n) + d) = 2 * n + d := by rw [w64_id (x := 2 * n) (by omega) (by omega)]; exact w64_id (by omega) (by omega)
  have e2 : w64 (2 * d) = 2 * d := w64_id (by omega) (by omega)
  have h0 : 0 ≤ (2 * n + d) / (2 * d) := Int.ediv_nonneg (by omega) (by omega)
  have h1 : (2 * n + d) / (2 * d) ≤ 2 * n + d := Int.ediv_le_self _ (by omega)
  have e3 : floorI (2 * n + d) (2 * d) = (2 * n + d) / (2 * d) := by
    rw [floorI_pos (by omega) (by omega)]; exact w64_id (by omega) (by omega)
  unfold roundI
  rw [e1, e2, e3]
  generalize (2 * n + d) / (2 * d) = t at h0 h1 ⊢
  repeat' split
  all_goals omega
theorem w64_0 : w64 0 = 0 := by decide
theorem clQ_id (q : Q4) : clQ (clQ q) = clQ q := by
  unfold clQ
  by_cases h : q.2.2.2 = 0
  · rw [if_pos h]; rfl
  · rw [if_neg h, if_neg h]
abbrev z4 : List Int := [0, 0, 0, 0]
end Go.Proofs.Ytadejpmecljjpaa
namespace Go.Proofs.Ytadejpmecljjpaa
open Go Go.Eng
section
variable (cl : Cl) (k r d v : Int) (l : Nat) (gs : List Int)
end
theorem errC_ok {k r d v : Int} {lK : Nat} {ks : List Int} {lC : Nat} {cs : List Int} (hv : validB k r d v lK ks lC cs = true) {X0 Y0 X1 Y1 a b c e p0 p1 p2 p3 : Int} {N : Nat} (hA : areaQ true k r v a b c e (-1) = (a + p0, b + p1, c + p2, e + p3))
    (m0 : m20 X0) (m1 : m20 Y0) (m2 : m20 X1) (m3 : m20 Y1) (n0 : m20 a) (n1 : m20 b) (n2 : m20 c) (n3 : m20 e) (hX : X0 < X1) (hY : Y0 < Y1) (hx : a < c) (hy : b < e) (hN : N = rcN X0 Y0 X1 Y1) (hsz : rcN a b c e ≤ 262144)
    (i0 : X0 ≤ a + p0) (i1 : c + p2 ≤ X1) (i2 : Y0 ≤ b + p1) (i3 : e + p3 ≤ Y1) : apErr X0 Y0 X1 Y1 a b c e N k r d v lK ks lC cs = 0 :=
  aE_of hv (adm_ok m0 m1 m2 m3) (by rw [hN]; exact rcN_eq m0 m1 m2 m3 hX hY) (adm_ok n0 n1 n2 n3) (by rw [← rcN_eq n0 n1 n2 n3 hx hy]; omega) (by rw [hA]; exact insB_ok i0 i1 i2 i3)
theorem rcN_20 {a b c e : Int} (h1 : c ≤ a + 20) (h2 : e ≤ b + 20) : rcN a b c e ≤ 400 := by
  unfold rcN
  exact Nat.mul_le_mul (show (e - b).toNat ≤ 20 by omega) (show (c - a).toNat ≤ 20 by omega)
def g4 (l : List Int) (t : Nat) : Q4 := (l.getD t 0, l.getD (t + 1) 0, l.getD (t + 2) 0, l.getD (t + 3) 0)
def q4E (q s : Q4) : Bool := q.1 == s.1 && (q.2.1 == s.2.1 && (q.2.2.1 == s.2.2.1 && (q.2.2.2 == s.2.2.2 && true)))
theorem q4E_self (q : Q4) : q4E q q = true := by simp [q4E]
theorem g4_pix (l : List Int) (i : Nat) : g4 l (0 + i * 4) = pixQ l (Int.ofNat i) := rfl
end Go.Proofs.Ytadejpmecljjpaa
