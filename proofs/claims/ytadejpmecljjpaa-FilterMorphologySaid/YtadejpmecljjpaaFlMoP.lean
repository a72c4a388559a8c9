/- FilterMorphology: the plain law of ranks. No conditions. -/
import Derived.Test.YtadejpmecljjpaaFlMoA
set_option linter.unusedVariables false
set_option linter.unusedSimpArgs false
set_option linter.unusedSectionVars false
namespace Go.Proofs.Ytadejpmecljjpaa
open Go Go.Eng
theorem sort_mem {l : List Int} {i : Nat} (h : i < l.length) : (sortI l).getD i 0 ∈ l := by
  have h1 : i < (sortI l).length := by rw [sortI_len]; exact h
  rw [List.getD_eq_getElem?_getD, List.getElem?_eq_getElem h1, Option.getD_some]
  exact (List.mergeSort_perm l _).mem_iff.1 (List.getElem_mem h1)
theorem sort_pair (l : List Int) : (sortI l).Pairwise fun x y => x ≤ y := by
  have h := List.pairwise_mergeSort (le := fun x y : Int => decide (x ≤ y)) (fun a b c h1 h2 => decide_eq_true (Int.le_trans (of_decide_eq_true h1) (of_decide_eq_true h2))) (fun a b => by
    rcases Int.le_total a b with q | q
    · rw [decide_eq_true q]; rfl
    · rw [decide_eq_true q, Bool.or_true]) l
  exact h.imp fun {a b} q => of_decide_eq_true q
theorem sort_le {l : List Int} {i j : Nat} (hij : i ≤ j) (hj : j < l.length) : (sortI l).getD i 0 ≤ (sortI l).getD j 0 := by
  have h1 : j < (sortI l).length := by rw [sortI_len]; exact hj
  have h0 : i < (sortI l).length := by omega
  rw [List.getD_eq_getElem?_getD, List.getD_eq_getElem?_getD, List.getElem?_eq_getElem h1, List.getElem?_eq_getElem h0, Option.getD_some, Option.getD_some]
  rcases Nat.lt_or_eq_of_le hij with q | q
  · exact List.pairwise_iff_getElem.1 (sort_pair l) i j h0 h1 q
  · subst q; exact Int.le_refl _
theorem sort_least {l : List Int} {x : Int} (hx : x ∈ l) : (sortI l).getD 0 0 ≤ x := by
  have h1 : x ∈ sortI l := (List.mergeSort_perm l _).mem_iff.2 hx
  obtain ⟨i, hi, rfl⟩ := List.getElem_of_mem h1
  have := sort_le (l := l) (i := 0) (j := i) (by omega) (by rw [sortI_len] at hi; exact hi)
  rw [List.getD_eq_getElem?_getD (i := i), List.getElem?_eq_getElem hi, Option.getD_some] at this
  exact this
theorem sort_most {l : List Int} {x : Int} (hx : x ∈ l) : x ≤ (sortI l).getD (l.length - 1) 0 := by
  have h1 : x ∈ sortI l := (List.mergeSort_perm l _).mem_iff.2 hx
  obtain ⟨i, hi, rfl⟩ := List.getElem_of_mem h1
  rw [sortI_len] at hi
  have := sort_le (l := l) (i := i) (j := l.length - 1) (by omega) (by omega)
  rw [List.getD_eq_getElem?_getD (i := i), List.getElem?_eq_getElem (by rw [sortI_len]; exact hi), Option.getD_some] at this
  exact this
structure Opq (q : Q4) : Prop where
  r : 0 ≤ q.1 ∧ q.1 ≤ 255
  g : 0 ≤ q.2.1 ∧ q.2.1 ≤ 255
  b : 0 ≤ q.2.2.1 ∧ q.2.2.1 ≤ 255
  a : q.2.2.2 = 255
theorem w64_u8 {x : Int} (h : 0 ≤ x ∧ x ≤ 255) : w64 x = x := w64_id (by omega) (by omega)
theorem u8w_u8 {x : Int} (h : 0 ≤ x ∧ x ≤ 255) : u8w x = x := by unfold u8w; rw [u8_wrap]; omega
theorem u8w_rng (x : Int) : 0 ≤ u8w x ∧ u8w x ≤ 255 := by unfold u8w; rw [u8_wrap]; omega
def ivQ (q : Q4) : Q4 := (255 - q.1, 255 - q.2.1, 255 - q.2.2.1, 255)
theorem ivQ_op {q : Q4} (h : Opq q) : Opq (ivQ q) := by
  obtain ⟨⟨a, b⟩, ⟨c, d⟩, ⟨e, f⟩, _⟩ := h
  exact ⟨⟨by show 0 ≤ 255 - _; omega, by show 255 - _ ≤ (255 : Int); omega⟩, ⟨by show 0 ≤ 255 - _; omega, by show 255 - _ ≤ (255 : Int); omega⟩, ⟨by show 0 ≤ 255 - _; omega, by show 255 - _ ≤ (255 : Int); omega⟩, rfl⟩
theorem invC_u8 {x : Int} (h : 0 ≤ x ∧ x ≤ 255) : invC x = 255 - x := by
  unfold invC
  rw [w64_u8 h, w64_u8 (x := 255 - x) (by omega), u8w_u8 (by omega)]
theorem clQ_op {q : Q4} (h : q.2.2.2 = 255) : clQ q = q := by unfold clQ; rw [if_neg (by omega)]
theorem inv_op {k r d v : Int} {ks : List Int} {lC : Nat} {cs : List Int} {g : Nat → Q4} (h : Opq (g 0)) : clQ (kdF k r d v ks lC cs .inv g) = ivQ (g 0) := by
  have e : kdF k r d v ks lC cs .inv g = ivQ (g 0) := by
    show (invC (g 0).1, invC (g 0).2.1, invC (g 0).2.2.1, u8w (w64 (g 0).2.2.2)) = _
    rw [invC_u8 h.r, invC_u8 h.g, invC_u8 h.b, h.a]; rfl
  rw [e]; exact clQ_op rfl
def chL (f : Q4 → Int) (g : Nat → Q4) (m : Nat) : List Int := (List.range m).map fun i => f (g i)
theorem chL_len (f : Q4 → Int) (g : Nat → Q4) (m : Nat) : (chL f g m).length = m := by simp [chL]
theorem rkF_ch {f : Q4 → Int} {g : Nat → Q4} {m : Nat} (h : ∀ i, i < m → 0 ≤ f (g i) ∧ f (g i) ≤ 255) : rkF f g m = chL f g m :=
  List.map_congr_left fun i hi => w64_u8 (h i (List.mem_range.1 hi))
theorem ch_rng {f : Q4 → Int} {g : Nat → Q4} {m : Nat} (h : ∀ i, i < m → 0 ≤ f (g i) ∧ f (g i) ≤ 255) {i : Nat} (hi : i < m) : 0 ≤ (sortI (chL f g m)).getD i 0 ∧ (sortI (chL f g m)).getD i 0 ≤ 255 := by
  have h1 := sort_mem (l := chL f g m) (i := i) (by rw [chL_len]; exact hi)
  obtain ⟨j, hj, e⟩ := List.mem_map.1 h1
  have := h j (List.mem_range.1 hj)
  rw [← e]; exact this
theorem rkI_lt {k : Int} {m : Nat} (h : 0 < m) : rkI k m < m := by
  unfold rkI
  repeat' split
  all_goals omega
theorem rkC_ch {k : Int} {f : Q4 → Int} {g : Nat → Q4} {m : Nat} (hm : 0 < m) (h : ∀ i, i < m → 0 ≤ f (g i) ∧ f (g i) ≤ 255) : rkC k f g m = (sortI (chL f g m)).getD (rkI k m) 0 := by
  unfold rkC
  rw [rkF_ch h, u8w_u8 (ch_rng h (rkI_lt hm))]
def rkO (k : Int) (g : Nat → Q4) (m : Nat) : Q4 := ((sortI (chL (·.1) g m)).getD (rkI k m) 0, (sortI (chL (·.2.1) g m)).getD (rkI k m) 0, (sortI (chL (·.2.2.1) g m)).getD (rkI k m) 0, 255)
theorem rk_op {k r d v : Int} {ks : List Int} {lC : Nat} {cs : List Int} {g : Nat → Q4} (h : ∀ i, i < sq r → Opq (g i)) : clQ (kdF k r d v ks lC cs .rk g) = rkO k g (sq r) := by
  have hm := sq_pos r
  have ea : (sortI (chL (·.2.2.2) g (sq r))).getD (rkI k (sq r)) 0 = 255 := by
    have h1 := sort_mem (l := chL (·.2.2.2) g (sq r)) (i := rkI k (sq r)) (by rw [chL_len]; exact rkI_lt hm)
    obtain ⟨j, hj, e⟩ := List.mem_map.1 h1
    rw [← e]; exact (h j (List.mem_range.1 hj)).a
  have e : kdF k r d v ks lC cs .rk g = rkO k g (sq r) := by
    show (rkC k (·.1) g (sq r), rkC k (·.2.1) g (sq r), rkC k (·.2.2.1) g (sq r), rkC k (·.2.2.2) g (sq r)) = _
    rw [rkC_ch hm fun i hi => (h i hi).r, rkC_ch hm fun i hi => (h i hi).g, rkC_ch hm fun i hi => (h i hi).b, rkC_ch hm (f := (·.2.2.2)) fun i hi => by rw [(h i hi).a]; omega, ea]
    rfl
  rw [e]; exact clQ_op rfl
theorem rkO_op {k r : Int} {g : Nat → Q4} (h : ∀ i, i < sq r → Opq (g i)) : Opq (rkO k g (sq r)) :=
  ⟨ch_rng (fun i hi => (h i hi).r) (rkI_lt (sq_pos r)), ch_rng (fun i hi => (h i hi).g) (rkI_lt (sq_pos r)), ch_rng (fun i hi => (h i hi).b) (rkI_lt (sq_pos r)), rfl⟩
theorem rk_mono {k k' : Int} {f : Q4 → Int} {g : Nat → Q4} {m : Nat} (hm : 0 < m) (h : rkI k m ≤ rkI k' m) : (sortI (chL f g m)).getD (rkI k m) 0 ≤ (sortI (chL f g m)).getD (rkI k' m) 0 :=
  sort_le h (by rw [chL_len]; exact rkI_lt hm)
theorem rk_dual {f f' : Q4 → Int} {g g' : Nat → Q4} {m : Nat} (hm : 0 < m) (h : ∀ i, i < m → f' (g' i) = 255 - f (g i)) : (sortI (chL f' g' m)).getD (rkI 3 m) 0 = 255 - (sortI (chL f g m)).getD (rkI 4 m) 0 := by
  have e3 : rkI 3 m = 0 := rfl
  have e4 : rkI 4 m = m - 1 := rfl
  rw [e3, e4]
  have h1 := sort_mem (l := chL f g m) (i := m - 1) (by rw [chL_len]; omega)
  obtain ⟨j, hj, ej⟩ := List.mem_map.1 h1
  have h2 := sort_mem (l := chL f' g' m) (i := 0) (by rw [chL_len]; omega)
  obtain ⟨i, hi, ei⟩ := List.mem_map.1 h2
  have hi' := List.mem_range.1 hi
  have hj' := List.mem_range.1 hj
  have a1 := sort_least (l := chL f' g' m) (x := f' (g' j)) (List.mem_map.2 ⟨j, hj, rfl⟩)
  have a2 := sort_most (l := chL f g m) (x := f (g i)) (List.mem_map.2 ⟨i, hi, rfl⟩)
  rw [chL_len] at a2
  rw [h j hj'] at a1
  have b1 := h i hi'
  omega
theorem dual_op {r : Int} {g g' : Nat → Q4} (h : ∀ i, i < sq r → g' i = ivQ (g i)) : rkO 3 g' (sq r) = ivQ (rkO 4 g (sq r)) := by
  have hm := sq_pos r
  unfold rkO ivQ
  rw [rk_dual (f := (·.1)) (f' := (·.1)) hm fun i hi => by rw [h i hi]; rfl, rk_dual (f := (·.2.1)) (f' := (·.2.1)) hm fun i hi => by rw [h i hi]; rfl, rk_dual (f := (·.2.2.1)) (f' := (·.2.2.1)) hm fun i hi => by rw [h i hi]; rfl]
theorem imgQ_rng (l : Nat) (ss : List Int) (i : Nat) : (0 ≤ (imgQ l ss i).1 ∧ (imgQ l ss i).1 ≤ 255) ∧ (0 ≤ (imgQ l ss i).2.1 ∧ (imgQ l ss i).2.1 ≤ 255) ∧ (0 ≤ (imgQ l ss i).2.2.1 ∧ (imgQ l ss i).2.2.1 ≤ 255) := by
  unfold imgQ clQ
  split
  · exact ⟨⟨Int.le_refl _, by show (0 : Int) ≤ 255; omega⟩, ⟨Int.le_refl _, by show (0 : Int) ≤ 255; omega⟩, ⟨Int.le_refl _, by show (0 : Int) ≤ 255; omega⟩⟩
  · exact ⟨u8w_rng _, u8w_rng _, u8w_rng _⟩
theorem area_rk {k n v : Int} (hk : k = 2 ∨ k = 3 ∨ k = 4) (g1 : 0 ≤ n) (g2 : n ≤ 3) {a b c e : Int} (h1 : a < c) (h2 : b < e) (h3 : -1000000 ≤ a) (h4 : -1000000 ≤ b) (h5 : c ≤ 1000000) (h6 : e ≤ 1000000) : areaQ true k n v a b c e (-1) = (a + -n, b + -n, c + n, e + n) := by
  have hem : emptyB a b c e = false := emptyB_lt h1 h2
  unfold areaQ
  rw [if_neg (by rw [hem]; simp), if_pos (within_iff'.2 (by omega))]
  unfold growQ
  rw [hem, if_neg (by simp)]
  unfold normQ
  rw [w64_id (x := a - n) (by omega) (by omega), w64_id (x := b - n) (by omega) (by omega), w64_id (x := c + n) (by omega) (by omega), w64_id (x := e + n) (by omega) (by omega), emptyB_lt (by omega) (by omega), if_neg (by simp)]
  rfl
theorem area_pt {k : Int} (hk : k = 5 ∨ k = 6 ∨ k = 7) {a b c e : Int} (h1 : a < c) (h2 : b < e) : areaQ true k 0 0 a b c e (-1) = (a + 0, b + 0, c + 0, e + 0) := by
  have hem : emptyB a b c e = false := emptyB_lt h1 h2
  unfold areaQ
  rw [if_neg (by rw [hem]; simp), if_neg (fun q => by have := within_iff'.1 q; omega), if_neg (by omega), Int.add_zero, Int.add_zero, Int.add_zero, Int.add_zero]
theorem growQn {a b c e : Int} {n : Nat} (hn : n ≤ 3) (h1 : a < c) (h2 : b < e) (h3 : -1000000 ≤ a) (h4 : -1000000 ≤ b) (h5 : c ≤ 1000000) (h6 : e ≤ 1000000) : growQ a b c e (Int.ofNat n) = (a - n, b - n, c + n, e + n) := by
  have e0 : Int.ofNat n = (n : Int) := rfl
  unfold growQ
  rw [emptyB_lt h1 h2, if_neg (by simp)]
  unfold normQ
  rw [e0, w64_id (x := a - n) (by omega) (by omega), w64_id (x := b - n) (by omega) (by omega), w64_id (x := c + n) (by omega) (by omega), w64_id (x := e + n) (by omega) (by omega), emptyB_lt (by omega) (by omega), if_neg (by simp)]
theorem valid_rk {k : Int} (hk : k = 2 ∨ k = 3 ∨ k = 4) {n : Nat} (hn : n ≤ 3) : validB k (Int.ofNat n) 0 0 0 [] 0 [] = true := by
  have : n = 0 ∨ n = 1 ∨ n = 2 ∨ n = 3 := by omega
  rcases hk with rfl | rfl | rfl <;> rcases this with rfl | rfl | rfl | rfl <;> decide
theorem valid_inv : validB 6 0 0 0 0 [] 0 [] = true := by decide
end Go.Proofs.Ytadejpmecljjpaa
