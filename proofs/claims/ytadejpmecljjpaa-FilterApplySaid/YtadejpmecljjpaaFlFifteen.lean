/- FilterMorphology: its pieces. No conditions. -/
import Derived.Test.YtadejpmecljjpaaFlFourteen
set_option linter.unusedVariables false
set_option linter.unusedSimpArgs false
set_option linter.unusedSectionVars false
namespace Go.Proofs.Ytadejpmecljjpaa
open Go Go.Eng
section
variable (nF nM : Bool) (fs ms : List Int) (a b c e X0 Y0 X1 Y1 : Int) (N : Nat) (px : List Int) (n : Nat)
variable (M : Nat) (ol oh om : List Int)
end
end Go.Proofs.Ytadejpmecljjpaa
namespace Go.Proofs.Ytadejpmecljjpaa
open Go Go.Eng
theorem sort_mem {l : List Int} {i : Nat} (h : i < l.length) : (sortI l).getD i 0 ∈ l := by
  have h1 : i < (sortI l).length := by rw [sortI_len]; exact h
  rw [List.getD_eq_getElem?_getD, List.getElem?_eq_getElem h1, Option.getD_some]
  exact (List.mergeSort_perm l _).mem_iff.1 (List.getElem_mem h1)
theorem sort_pair (l : List Int) : (sortI l).Pairwise fun x y => x ≤ y := by
  have h := List.pairwise_mergeSort (le := fun x y : Int => decide (x ≤ y)) (fun a b c h1 h2 => decide_eq_true (Int.le_trans (of_decide_eq_true h1) (of_decide_eq_true h2))) (fun a b => by
    rcases Int.le_total a b with q | q
    · rw [decide_eq_true q]; rfl
    · rw [decide_eq_true q, Bool.or_true]) l
  exact h.imp fun {a b} q => of_decide_eq_true q
structure Opq (q : Q4) : Prop where
  r : 0 ≤ q.1 ∧ q.1 ≤ 255
  g : 0 ≤ q.2.1 ∧ q.2.1 ≤ 255
  b : 0 ≤ q.2.2.1 ∧ q.2.2.1 ≤ 255
  a : q.2.2.2 = 255
theorem w64_u8 {x : Int} (h : 0 ≤ x ∧ x ≤ 255) : w64 x = x := w64_id (by omega) (by omega)
theorem u8w_u8 {x : Int} (h : 0 ≤ x ∧ x ≤ 255) : u8w x = x := by unfold u8w; rw [u8_wrap]; omega
theorem u8w_rng (x : Int) : 0 ≤ u8w x ∧ u8w x ≤ 255 := by unfold u8w; rw [u8_wrap]; omega
def chL (f : Q4 → Int) (g : Nat → Q4) (m : Nat) : List Int := (List.range m).map fun i => f (g i)
theorem chL_len (f : Q4 → Int) (g : Nat → Q4) (m : Nat) : (chL f g m).length = m := by simp [chL]
theorem rkF_ch {f : Q4 → Int} {g : Nat → Q4} {m : Nat} (h : ∀ i, i < m → 0 ≤ f (g i) ∧ f (g i) ≤ 255) : rkF f g m = chL f g m :=
  List.map_congr_left fun i hi => w64_u8 (h i (List.mem_range.1 hi))
theorem ch_rng {f : Q4 → Int} {g : Nat → Q4} {m : Nat} (h : ∀ i, i < m → 0 ≤ f (g i) ∧ f (g i) ≤ 255) {i : Nat} (hi : i < m) : 0 ≤ (sortI (chL f g m)).getD i 0 ∧ (sortI (chL f g m)).getD i 0 ≤ 255 := by
  have h1 := sort_mem (l := chL f g m) (i := i) (by rw [chL_len]; exact hi)
  obtain ⟨j, hj, e⟩ := List.mem_map.1 h1
  have := h j (List.mem_range.1 hj)
  rw [← e]; exact this
theorem rkI_lt {k : Int} {m : Nat} (h : 0 < m) : rkI k m < m := by
  unfold rkI
  repeat' split
  all_goals omega
theorem rkC_ch {k : Int} {f : Q4 → Int} {g : Nat → Q4} {m : Nat} (hm : 0 < m) (h : ∀ i, i < m → 0 ≤ f (g i) ∧ f (g i) ≤ 255) : rkC k f g m = (sortI (chL f g m)).getD (rkI k m) 0 := by
  unfold rkC
  rw [rkF_ch h, u8w_u8 (ch_rng h (rkI_lt hm))]
end Go.Proofs.Ytadejpmecljjpaa
namespace Go.Proofs.Ytadejpmecljjpaa
open Go Go.Eng
section
variable (nF nM : Bool) (fs ms : List Int) (lF cF lM cM : Nat) (q0 q1 q2 q3 b0 : Int)
end
end Go.Proofs.Ytadejpmecljjpaa
