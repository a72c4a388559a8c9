/- FilterMorphology: the plain law of ranks. No conditions. -/
import Derived.Test.YtadejpmecljjpaaFlMoA
set_option linter.unusedVariables false
set_option linter.unusedSimpArgs false
set_option linter.unusedSectionVars false
namespace Go.Proofs.Ytadejpmecljjpaa
open Go Go.Eng
structure Opq (q : Q4) : Prop where
  r : 0 ≤ q.1 ∧ q.1 ≤ 255
  g : 0 ≤ q.2.1 ∧ q.2.1 ≤ 255
  b : 0 ≤ q.2.2.1 ∧ q.2.2.1 ≤ 255
  a : q.2.2.2 = 255
theorem w64_u8 {x : Int} (h : 0 ≤ x ∧ x ≤ 255) : w64 x = x := w64_id (by omega) (by omega)
theorem u8w_u8 {x : Int} (h : 0 ≤ x ∧ x ≤ 255) : u8w x = x := by unfold u8w; rw [u8_wrap]; omega
theorem u8w_rng (x : Int) : 0 ≤ u8w x ∧ u8w x ≤ 255 := by unfold u8w; rw [u8_wrap]; omega
theorem invC_u8 {x : Int} (h : 0 ≤ x ∧ x ≤ 255) : invC x = 255 - x := by
  unfold invC
  rw [w64_u8 h, w64_u8 (x := 255 - x) (by omega), u8w_u8 (by omega)]
theorem area_pt {k : Int} (hk : k = 5 ∨ k = 6 ∨ k = 7) {a b c e : Int} (h1 : a < c) (h2 : b < e) : areaQ true k 0 0 a b c e (-1) = (a + 0, b + 0, c + 0, e + 0) := by
  have hem : emptyB a b c e = false := emptyB_lt h1 h2
  unfold areaQ
  rw [if_neg (by rw [hem]; simp), if_neg (fun q => by have := within_iff'.1 q; omega), if_neg (by omega), Int.add_zero, Int.add_zero, Int.add_zero, Int.add_zero]
theorem growQn {a b c e : Int} {n : Nat} (hn : n ≤ 3) (h1 : a < c) (h2 : b < e) (h3 : -1000000 ≤ a) (h4 : -1000000 ≤ b) (h5 : c ≤ 1000000) (h6 : e ≤ 1000000) : growQ a b c e (Int.ofNat n) = (a - n, b - n, c + n, e + n) := by
  have e0 : Int.ofNat n = (n : Int) := rfl
  unfold growQ
  rw [emptyB_lt h1 h2, if_neg (by simp)]
  unfold normQ
  rw [e0, w64_id (x := a - n) (by omega) (by omega), w64_id (x := b - n) (by omega) (by omega), w64_id (x := c + n) (by omega) (by omega), w64_id (x := e + n) (by omega) (by omega), emptyB_lt (by omega) (by omega), if_neg (by simp)]
theorem valid_inv : validB 6 0 0 0 0 [] 0 [] = true := by decide
end Go.Proofs.Ytadejpmecljjpaa
