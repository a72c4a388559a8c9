/- Filter laws anew, part ZO: the places that a valid filter reads. No conditions. -/
import Derived.Test.YtadejpmecljjpaaFlTwelve
set_option linter.unusedVariables false
set_option linter.unusedSimpArgs false
set_option linter.unusedSectionVars false
namespace Go.Proofs.Ytadejpmecljjpaa
open Go Go.Eng
theorem kd_rk {k : Int} (h : k = 2 ∨ k = 3 ∨ k = 4) : kdOf k = .rk := by rcases h with rfl | rfl | rfl <;> rfl
theorem win_place (x y : Int) (R : Nat) {i : Nat} (h : i < (2 * R + 1) * (2 * R + 1)) :
    ∃ x' y' : Int, x - R ≤ x' ∧ x' ≤ x + R ∧ y - R ≤ y' ∧ y' ≤ y + R ∧ ∀ X0 Y0 X1, winI X0 Y0 X1 x y R i = idxE X0 Y0 X1 x' y' := by
  have h1 : i % (2 * R + 1) < 2 * R + 1 := Nat.mod_lt _ (by omega)
  have h2 : i / (2 * R + 1) < 2 * R + 1 := Nat.div_lt_of_lt_mul h
  refine ⟨x - Int.ofNat R + Int.ofNat (i % (2 * R + 1)), y - Int.ofNat R + Int.ofNat (i / (2 * R + 1)), ?_, ?_, ?_, ?_, fun _ _ _ => rfl⟩
  all_goals
    generalize i % (2 * R + 1) = u at h1 ⊢
    generalize i / (2 * R + 1) = t at h2 ⊢
    have e1 : Int.ofNat u = (u : Int) := rfl
    have e2 : Int.ofNat t = (t : Int) := rfl
    have e3 : Int.ofNat R = (R : Int) := rfl
    omega
theorem area_form2 {k r d v : Int} {lK : Nat} {ks : List Int} {lC : Nat} {cs : List Int} (hv : validB k r d v lK ks lC cs = true) :
    ∃ p0 p1 p2 p3 : Int, (-3 ≤ p0 ∧ p0 ≤ 3) ∧ (-3 ≤ p1 ∧ p1 ≤ 3) ∧ (p0 ≤ p2 ∧ p2 ≤ 3) ∧ (p1 ≤ p3 ∧ p3 ≤ 3) ∧
      (∀ a b c e : Int, a < c → b < e → -1000000 ≤ a → -1000000 ≤ b → c ≤ 1000000 → e ≤ 1000000 → areaQ true k r v a b c e (-1) = (a + p0, b + p1, c + p2, e + p3)) ∧
      (∀ a b c e : Int, a < c → b < e → -1000000 ≤ a → -1000000 ≤ b → c ≤ 1000000 → e ≤ 1000000 → areaQ true k r v a b c e 1 = (a - p2, b - p3, c - p0, e - p1)) ∧
      (∀ (x y : Int) (i : Nat), i < sq r → ∃ x' y' : Int, x + p0 ≤ x' ∧ x' ≤ x + p2 ∧ y + p1 ≤ y' ∧ y' ≤ y + p3 ∧ ∀ X0 Y0 X1, wix X0 Y0 X1 r v x y (kdOf k) i = idxE X0 Y0 X1 x' y') := by
  have grow : within k 1 4 = true → 0 ≤ r → r ≤ 3 → ∀ s : Int, ∀ a b c e : Int, a < c → b < e → -1000000 ≤ a → -1000000 ≤ b → c ≤ 1000000 → e ≤ 1000000 → areaQ true k r v a b c e s = (a + -r, b + -r, c + r, e + r) := by
    intro hw g1 g2 s a b c e h1 h2 h3 h4 h5 h6
    have hem : emptyB a b c e = false := emptyB_lt h1 h2
    unfold areaQ
    rw [if_neg (by rw [hem]; simp), if_pos hw]
    unfold growQ
    rw [hem, if_neg (by simp)]
    unfold normQ
    rw [w64_id (x := a - r) (by omega) (by omega), w64_id (x := b - r) (by omega) (by omega), w64_id (x := c + r) (by omega) (by omega), w64_id (x := e + r) (by omega) (by omega), emptyB_lt (by omega) (by omega), if_neg (by simp)]
    rfl
  have win : 0 ≤ r → ∀ (x y : Int) (i : Nat), i < sq r → ∃ x' y' : Int, x + -r ≤ x' ∧ x' ≤ x + r ∧ y + -r ≤ y' ∧ y' ≤ y + r ∧ ∀ X0 Y0 X1, winI X0 Y0 X1 x y r.toNat i = idxE X0 Y0 X1 x' y' := by
    intro h0 x y i hi
    obtain ⟨x', y', h1, h2, h3, h4, h5⟩ := win_place x y r.toNat hi
    exact ⟨x', y', by omega, by omega, by omega, by omega, h5⟩
  rcases validK hv with ⟨rfl, ⟨g1, g2⟩, g3⟩ | ⟨hk, ⟨g1, g2⟩⟩ | ⟨hk, g⟩ | ⟨rfl, ⟨g1, g2⟩, ⟨g3, g4⟩⟩
  · refine ⟨-r, -r, r, r, by omega, by omega, by omega, by omega, grow (by decide) g1 g2 _, fun a b c e h1 h2 h3 h4 h5 h6 => ?_, win g1⟩
    rw [grow (by decide) g1 g2 _ a b c e h1 h2 h3 h4 h5 h6, Int.sub_neg, Int.sub_neg]; rfl
  · refine ⟨-r, -r, r, r, by omega, by omega, by omega, by omega, grow (within_iff'.2 (by omega)) g1 g2 _, fun a b c e h1 h2 h3 h4 h5 h6 => ?_, ?_⟩
    · rw [grow (within_iff'.2 (by omega)) g1 g2 _ a b c e h1 h2 h3 h4 h5 h6, Int.sub_neg, Int.sub_neg]; rfl
    · rw [kd_rk hk]; exact win g1
  · have hem : ∀ a b c e : Int, a < c → b < e → ∀ s, areaQ true k r v a b c e s = (a, b, c, e) := by
      intro a b c e h1 h2 s
      have hem : emptyB a b c e = false := emptyB_lt h1 h2
      unfold areaQ
      rw [if_neg (by rw [hem]; simp), if_neg (fun q => by have := within_iff'.1 q; omega), if_neg (by omega)]
    refine ⟨0, 0, 0, 0, by omega, by omega, by omega, by omega, fun a b c e h1 h2 h3 h4 h5 h6 => ?_, fun a b c e h1 h2 h3 h4 h5 h6 => ?_, fun x y i hi => ⟨x, y, by omega, by omega, by omega, by omega, fun X0 Y0 X1 => ?_⟩⟩
    · rw [hem a b c e h1 h2, Int.add_zero, Int.add_zero, Int.add_zero, Int.add_zero]
    · rw [hem a b c e h1 h2, Int.sub_zero, Int.sub_zero, Int.sub_zero, Int.sub_zero]
    · rcases hk with rfl | rfl | rfl <;> rfl
  · have mv : ∀ s, (s = 1 ∨ s = -1) → ∀ a b c e : Int, a < c → b < e → -1000000 ≤ a → -1000000 ≤ b → c ≤ 1000000 → e ≤ 1000000 → areaQ true 8 r v a b c e s = (a + s * r, b + s * v, c + s * r, e + s * v) := by
      intro s hs a b c e h1 h2 h3 h4 h5 h6
      have hem : emptyB a b c e = false := emptyB_lt h1 h2
      unfold areaQ
      rw [if_neg (by rw [hem]; simp), if_neg (by decide), if_pos rfl]
      unfold moveQ
      have b1 : -3 ≤ s * r ∧ s * r ≤ 3 := by rcases hs with rfl | rfl <;> omega
      have b2 : -3 ≤ s * v ∧ s * v ≤ 3 := by rcases hs with rfl | rfl <;> omega
      generalize s * r = sr at b1 ⊢
      generalize s * v = sv at b2 ⊢
      have q1 : w64 sr = sr := w64_id (by omega) (by omega)
      have q2 : w64 sv = sv := w64_id (by omega) (by omega)
      rw [hem, if_neg (by simp)]
      unfold normQ
      rw [q1, q2, w64_id (x := a + sr) (by omega) (by omega), w64_id (x := b + sv) (by omega) (by omega), w64_id (x := c + sr) (by omega) (by omega), w64_id (x := e + sv) (by omega) (by omega), emptyB_lt (by omega) (by omega), if_neg (by simp)]
    refine ⟨-r, -v, -r, -v, by omega, by omega, by omega, by omega, fun a b c e h1 h2 h3 h4 h5 h6 => ?_, fun a b c e h1 h2 h3 h4 h5 h6 => ?_, fun x y i hi => ⟨x - r, y - v, by omega, by omega, by omega, by omega, fun X0 Y0 X1 => ?_⟩⟩
    · rw [mv (-1) (.inr rfl) a b c e h1 h2 h3 h4 h5 h6, show (-1 : Int) * r = -r by omega, show (-1 : Int) * v = -v by omega]
    · rw [mv 1 (.inl rfl) a b c e h1 h2 h3 h4 h5 h6, Int.one_mul, Int.one_mul, Int.sub_neg, Int.sub_neg, Int.sub_neg, Int.sub_neg]
    · show idxE X0 Y0 X1 (w64 (x - r)) (w64 (y - v)) = _
      rw [idxE_wrap]
theorem putI_len {px : List Int} {o : Nat} {l : List Int} (h : o + l.length ≤ px.length) : (putI px o l).length = px.length := by
  unfold putI
  rw [List.length_append, List.length_append, List.length_take, List.length_drop]; omega
end Go.Proofs.Ytadejpmecljjpaa
namespace Go.Proofs.Ytadejpmecljjpaa
open Go Go.Eng
theorem floorI_pos {a b : Int} (ha : 0 ≤ a) (hb : 0 < b) : floorI a b = w64 (a / b) := by
  unfold floorI
  rw [if_neg (by omega), if_neg (fun h => h.2 (by rw [decide_eq_false (by omega : ¬ a < 0), decide_eq_false (by omega : ¬ b < 0)])), Int.tdiv_eq_ediv_of_nonneg ha]
theorem roundI_pos {n d : Int} (hn : 0 ≤ n) (hn2 : n ≤ 1000000000000000000) (hd : 0 < d) (hd2 : d ≤ 1000000000000000000) : roundI n d = if (2 * n + d) / (2 * d) > 255 then 255 else (2 * n + d) / (2 * d) := by
  have e1 : w64 (w64 (2 * n) + d) = 2 * n + d := by rw [w64_id (x := 2 * n) (by omega) (by omega)]; exact w64_id (by omega) (by omega)
  have e2 : w64 (2 * d) = 2 * d := w64_id (by omega) (by omega)
  have h0 : 0 ≤ (2 * n + d) / (2 * d) := Int.ediv_nonneg (by omega) (by omega)
  have h1 : (2 * n + d) / (2 * d) ≤ 2 * n + d := Int.ediv_le_self _ (by omega)
  have e3 : floorI (2 * n + d) (2 * d) = (2 * n + d) / (2 * d) := by
    rw [floorI_pos (by omega) (by omega)]; exact w64_id (by omega) (by omega)
  unfold roundI
  rw [e1, e2, e3]
  generalize (2 * n + d) / (2 * d) = t at h0 h1 ⊢
  repeat' split
  all_goals omega
theorem clQ_id (q : Q4) : clQ (clQ q) = clQ q := by
  unfold clQ
  by_cases h : q.2.2.2 = 0
  · rw [if_pos h]; rfl
  · rw [if_neg h, if_neg h]
abbrev z4 : List Int := [0, 0, 0, 0]
end Go.Proofs.Ytadejpmecljjpaa
namespace Go.Proofs.Ytadejpmecljjpaa
open Go Go.Eng
section
variable (cl : Cl) (k r d v : Int) (l : Nat) (gs : List Int)
abbrev vBC : Bool := validB k r d v (glK cl l) (grK cl gs) (glC cl l) (grC cl gs)
end
theorem errC_ok {k r d v : Int} {lK : Nat} {ks : List Int} {lC : Nat} {cs : List Int} (hv : validB k r d v lK ks lC cs = true) {X0 Y0 X1 Y1 a b c e p0 p1 p2 p3 : Int} {N : Nat} (hA : areaQ true k r v a b c e (-1) = (a + p0, b + p1, c + p2, e + p3))
    (m0 : m20 X0) (m1 : m20 Y0) (m2 : m20 X1) (m3 : m20 Y1) (n0 : m20 a) (n1 : m20 b) (n2 : m20 c) (n3 : m20 e) (hX : X0 < X1) (hY : Y0 < Y1) (hx : a < c) (hy : b < e) (hN : N = rcN X0 Y0 X1 Y1) (hsz : rcN a b c e ≤ 262144)
    (i0 : X0 ≤ a + p0) (i1 : c + p2 ≤ X1) (i2 : Y0 ≤ b + p1) (i3 : e + p3 ≤ Y1) : apErr X0 Y0 X1 Y1 a b c e N k r d v lK ks lC cs = 0 :=
  aE_of hv (adm_ok m0 m1 m2 m3) (by rw [hN]; exact rcN_eq m0 m1 m2 m3 hX hY) (adm_ok n0 n1 n2 n3) (by rw [← rcN_eq n0 n1 n2 n3 hx hy]; omega) (by rw [hA]; exact insB_ok i0 i1 i2 i3)
theorem rcN_20 {a b c e : Int} (h1 : c ≤ a + 20) (h2 : e ≤ b + 20) : rcN a b c e ≤ 400 := by
  unfold rcN
  exact Nat.mul_le_mul (show (e - b).toNat ≤ 20 by omega) (show (c - a).toNat ≤ 20 by omega)
def g4 (l : List Int) (t : Nat) : Q4 := (l.getD t 0, l.getD (t + 1) 0, l.getD (t + 2) 0, l.getD (t + 3) 0)
def q4E (q s : Q4) : Bool := q.1 == s.1 && (q.2.1 == s.2.1 && (q.2.2.1 == s.2.2.1 && (q.2.2.2 == s.2.2.2 && true)))
theorem q4E_self (q : Q4) : q4E q q = true := by simp [q4E]
theorem g4_pix (l : List Int) (i : Nat) : g4 l (0 + i * 4) = pixQ l (Int.ofNat i) := rfl
end Go.Proofs.Ytadejpmecljjpaa
