/- FilterApply: the reference's quotients, curves and tones. No conditions. -/
import Derived.Test.YtadejpmecljjpaaFlSixteen
set_option linter.unusedVariables false
set_option linter.unusedSimpArgs false
set_option linter.unusedSectionVars false
namespace Go.Proofs.Ytadejpmecljjpaa
open Go Go.Eng
theorem rfl0 (a b : Int) : RunIs Try.prog csH [(7,.split),(14,.split),(20,.split)] 1000 0 Try.f110 [] (bodyOf Try.f110) (startSt [.int .i64 a, .int .i64 b] .nil 0) []
    [([((b == (0 : Int)), true)], [], .ret (.int .i64 0) (hL []) 0),
    ([((b == (0 : Int)), false), ((a.tmod b != (0 : Int)), true), ((!decide (a < (0 : Int)) == decide (b < (0 : Int))), true)], [(b ≠ (0 : Int)), (b ≠ (0 : Int))], .ret (.int .i64 (w64 (w64 (a.tdiv b) - (1 : Int)))) (hL []) 0),
    ([((b == (0 : Int)), false), ((a.tmod b != (0 : Int)), true), ((!decide (a < (0 : Int)) == decide (b < (0 : Int))), false)], [(b ≠ (0 : Int)), (b ≠ (0 : Int))], .ret (.int .i64 (w64 (a.tdiv b))) (hL []) 0),
    ([((b == (0 : Int)), false), ((a.tmod b != (0 : Int)), false)], [(b ≠ (0 : Int)), (b ≠ (0 : Int))], .ret (.int .i64 (w64 (a.tdiv b))) (hL []) 0)] := by unfold RunIs; kernel_rfl
theorem tgRF (a b : Int) : TG Try.prog 0 Try.f110.ntmps (bodyOf Try.f110) (startSt [.int .i64 a, .int .i64 b] .nil 0) (RetG Try.prog 0 Try.f110 fun v _ _ => v = .int .i64 (floorI a b)) := by
  refine TG_ret XH mo _ (by kernel_rfl) (rfl0 a b) fun g hg hc => ?_
  simp only [List.mem_cons, List.not_mem_nil, or_false] at hg
  rcases hg with rfl | rfl | rfl | rfl <;> simp only [List.mem_cons, List.not_mem_nil, or_false, forall_eq_or_imp, forall_eq] at hc
  · have h1 : b = 0 := by simpa using hc
    exact ⟨by simp, _, _, _, rfl, by simp [floorI, h1]⟩
  · have h1 : b ≠ 0 := by simpa using hc.1
    have h2 : a.tmod b ≠ 0 := by simpa using hc.2.1
    have h3 : decide (a < 0) ≠ decide (b < 0) := by simpa using hc.2.2
    exact ⟨by simp [h1], _, _, _, rfl, by rw [floorI, if_neg h1, if_pos ⟨h2, h3⟩]⟩
  · have h1 : b ≠ 0 := by simpa using hc.1
    have h3 : ¬ decide (a < 0) ≠ decide (b < 0) := by simpa using hc.2.2
    exact ⟨by simp [h1], _, _, _, rfl, by rw [floorI, if_neg h1, if_neg (fun q => h3 q.2)]⟩
  · have h1 : b ≠ 0 := by simpa using hc.1
    have h2 : ¬ a.tmod b ≠ 0 := by simpa using hc.2
    exact ⟨by simp [h1], _, _, _, rfl, by rw [floorI, if_neg h1, if_neg (fun q => h2 q.1)]⟩
theorem one_RF : OneW Try.prog 110 (pureW specFl) := by
  refine pureW_ok (Nat.le_of_ble_eq_true (by kernel_rfl)) fun args A v e => ?_
  unfold specFl at e
  split at e
  · simp only [Option.some.injEq, Prod.mk.injEq] at e; obtain ⟨rfl, rfl⟩ := e
    exact ⟨rfl, rfl, fun _ => pure_calls mo po Try.func110 (by kernel_rfl) (by kernel_rfl) rfl (tgRF _ _)⟩
  · cases e
theorem curve_rng {l : Nat} {ks : List Int} (h : curveB l ks = true) {i : Nat} (hi : i < l) : 0 ≤ ks.getD i 0 ∧ ks.getD i 0 ≤ 65535 := by
  obtain ⟨h2, _⟩ := curveB_two h
  unfold curveB at h
  simp only [Bool.and_eq_true, decide_eq_true_eq] at h
  have a1 := sorted_le h.2.2.2 i 0 (by omega) hi
  have a2 := sorted_le h.2.2.2 (l - 1) i (by omega) (by omega)
  have e : ∀ j, at0 ks j = ks.getD j 0 := fun _ => rfl
  have b1 := h.2.1
  have b2 := h.2.2.1
  rw [e, e] at a1 a2
  rw [e] at b1 b2
  omega
def atV (ks : List Int) (l X : Nat) : Int := w64 ((w64 (w64 (2 * w64 (w64 (ks.getD (ixA l X) 0 * w64 (65535 - Int.ofNat (frA l X))) + w64 (ks.getD (ixA l X + 1) 0 * Int.ofNat (frA l X)))) + 65535)).tdiv 131070)
abbrev vA0 (l X : Nat) : List Prop := [V.int .i64 (w64 ((l : Int) - 1)) = V.int .i64 (Int.ofNat (l - 1)), (65535 : Int) ≠ 0, V.int .i64 (w64 ((w64 (Int.ofNat (l - 1) * Int.ofNat X)).tdiv 65535)) = V.int .i64 (Int.ofNat (ixA l X)), V.int .i64 ((w64 (Int.ofNat (l - 1) * Int.ofNat X)).tmod 65535) = V.int .i64 (Int.ofNat (frA l X))]
theorem vl1 (ks : List Int) (l c X : Nat) : RunIs Try.prog csH (HA l X) 1000 1 Try.f111 [] (bodyOf Try.f111) (startSt [sl l c, .int .i64 (Int.ofNat X)] (rH [some (.i64, ks)]) 1) []
    [([((Int.ofNat (ixA l X) == Int.ofNat (l - (1 : Nat))), true)], vA0 l X ++ [0 ≤ Int.ofNat (l - 1) ∧ Int.ofNat (l - 1) < (l : Int), 0 + (Int.ofNat (l - 1)).toNat * 1 < ks.length], .ret (.int .i64 (ks.getD (0 + (Int.ofNat (l - 1)).toNat * 1) 0)) (hL [(0, .ints .i64 (ks))]) 1),
    ([((Int.ofNat (ixA l X) == Int.ofNat (l - (1 : Nat))), false)],
      vA0 l X ++ [0 ≤ Int.ofNat (ixA l X) ∧ Int.ofNat (ixA l X) < (l : Int), 0 + (Int.ofNat (ixA l X)).toNat * 1 < ks.length, V.int .i64 (w64 (Int.ofNat (ixA l X) + 1)) = V.int .i64 (Int.ofNat (ixA l X + 1)), 0 ≤ Int.ofNat (ixA l X + 1) ∧ Int.ofNat (ixA l X + 1) < (l : Int), 0 + (Int.ofNat (ixA l X + 1)).toNat * 1 < ks.length, (131070 : Int) ≠ 0],
      .ret (.int .i64 (w64 ((w64 (w64 (2 * w64 (w64 (ks.getD (0 + (Int.ofNat (ixA l X)).toNat * 1) 0 * w64 (65535 - Int.ofNat (frA l X))) + w64 (ks.getD (0 + (Int.ofNat (ixA l X + 1)).toNat * 1) 0 * Int.ofNat (frA l X)))) + 65535)).tdiv 131070))) (hL [(0, .ints .i64 (ks))]) 1)] := by unfold RunIs; kernel_rfl
theorem atV_eq {l : Nat} {ks : List Int} (h : curveB l ks = true) {X : Nat} (hX : X ≤ 65535) (hne : ¬ ixA l X = l - 1) : atV ks l X = atR ks l X := by
  obtain ⟨h2, h3⟩ := curveB_two h
  have hm : (l - 1) * X ≤ 256 * 65535 := Nat.mul_le_mul (by omega) hX
  have hle : ixA l X ≤ l - 1 := by
    unfold ixA
    apply Nat.div_le_of_le_mul
    rw [Nat.mul_comm 65535]
    exact Nat.mul_le_mul_left _ hX
  have hf : frA l X < 65535 := Nat.mod_lt _ (by omega)
  obtain ⟨a1, a2⟩ := curve_rng h (i := ixA l X) (by omega)
  obtain ⟨b1, b2⟩ := curve_rng h (i := ixA l X + 1) (by omega)
  unfold atV atR
  rw [if_neg hne]
  generalize ks.getD (ixA l X) 0 = x at *
  generalize ks.getD (ixA l X + 1) 0 = y at *
  have ef : Int.ofNat (frA l X) = (frA l X : Int) := rfl
  rw [ef]
  generalize (frA l X) = f at *
  have e0 : w64 (65535 - (f : Int)) = 65535 - (f : Int) := w64_id (by omega) (by omega)
  obtain ⟨c1, c2⟩ := mul_le_mul' a1 a2 (show 0 ≤ 65535 - (f : Int) by omega) (show 65535 - (f : Int) ≤ 65535 by omega)
  obtain ⟨d1, d2⟩ := mul_le_mul' b1 b2 (show 0 ≤ (f : Int) by omega) (show (f : Int) ≤ 65535 by omega)
  rw [e0]
  generalize x * (65535 - (f : Int)) = A at *
  generalize y * (f : Int) = B at *
  rw [w64_id (x := A) (by omega) (by omega), w64_id (x := B) (by omega) (by omega), w64_id (x := A + B) (by omega) (by omega), w64_id (x := 2 * (A + B)) (by omega) (by omega), w64_id (x := 2 * (A + B) + 65535) (by omega) (by omega), w64_id (x := A + B + 32767) (by omega) (by omega)]
  rw [Int.tdiv_eq_ediv_of_nonneg (by omega), Int.tdiv_eq_ediv_of_nonneg (by omega)]
  congr 1
  omega
theorem atR_rng {l : Nat} {ks : List Int} (h : curveB l ks = true) {X : Nat} (hX : X ≤ 65535) : 0 ≤ atR ks l X ∧ atR ks l X ≤ 65535 := by
  obtain ⟨h2, h3⟩ := curveB_two h
  by_cases hne : ixA l X = l - 1
  · unfold atR; rw [if_pos hne]; exact curve_rng h (by omega)
  have hle : ixA l X ≤ l - 1 := by
    unfold ixA
    apply Nat.div_le_of_le_mul
    rw [Nat.mul_comm 65535]
    exact Nat.mul_le_mul_left _ hX
  have hf : frA l X < 65535 := Nat.mod_lt _ (by omega)
  obtain ⟨a1, a2⟩ := curve_rng h (i := ixA l X) (by omega)
  obtain ⟨b1, b2⟩ := curve_rng h (i := ixA l X + 1) (by omega)
  unfold atR
  rw [if_neg hne]
  generalize ks.getD (ixA l X) 0 = x at *
  generalize ks.getD (ixA l X + 1) 0 = y at *
  have ef : Int.ofNat (frA l X) = (frA l X : Int) := rfl
  rw [ef]
  generalize (frA l X) = f at *
  have e0 : w64 (65535 - (f : Int)) = 65535 - (f : Int) := w64_id (by omega) (by omega)
  have c0 : 0 ≤ x * (65535 - (f : Int)) := Int.mul_nonneg a1 (by omega)
  have d0 : 0 ≤ y * (f : Int) := Int.mul_nonneg b1 (by omega)
  have c2 : x * (65535 - (f : Int)) ≤ 65535 * (65535 - (f : Int)) := Int.mul_le_mul_of_nonneg_right a2 (by omega)
  have d2 : y * (f : Int) ≤ 65535 * (f : Int) := Int.mul_le_mul_of_nonneg_right b2 (by omega)
  rw [e0]
  generalize x * (65535 - (f : Int)) = A at *
  generalize y * (f : Int) = B at *
  rw [w64_id (x := A) (by omega) (by omega), w64_id (x := B) (by omega) (by omega), w64_id (x := A + B) (by omega) (by omega), w64_id (x := A + B + 32767) (by omega) (by omega)]
  rw [Int.tdiv_eq_ediv_of_nonneg (by omega)]
  rw [w64_id (by omega) (by omega)]
  omega
theorem tgVl (ks : List Int) (l c X : Nat) (h : curveB l ks = true) (h3 : l ≤ ks.length) (hX : X ≤ 65535) : TG Try.prog 1 Try.f111.ntmps (bodyOf Try.f111) (startSt [sl l c, .int .i64 (Int.ofNat X)] (rH [some (.i64, ks)]) 1) (RetG Try.prog 1 Try.f111 fun v _ _ => v = .int .i64 (atR ks l X)) := by
  obtain ⟨h1, h2⟩ := curveB_two h
  have z : ∀ i : Nat, (0 : Nat) + (Int.ofNat i).toNat * (1 : Nat) = i := by intro i; show 0 + i * 1 = i; omega
  have hm : (l - 1) * X ≤ 256 * 65535 := Nat.mul_le_mul (by omega) hX
  have hle : ixA l X ≤ l - 1 := by
    unfold ixA
    apply Nat.div_le_of_le_mul
    rw [Nat.mul_comm 65535]
    exact Nat.mul_le_mul_left _ hX
  have e1 : V.int IntKind.i64 (w64 ((l : Int) - (1 : Int))) = V.int IntKind.i64 (Int.ofNat (l - (1 : Nat))) := down_ok (by omega) (by omega)
  have hmul : Int.ofNat (l - 1) * Int.ofNat X = Int.ofNat ((l - 1) * X) := by simp
  have hw : w64 (Int.ofNat (l - 1) * Int.ofNat X) = Int.ofNat ((l - 1) * X) := by
    rw [hmul]
    exact wrap64 (by show -9223372036854775808 ≤ (((l - 1) * X : Nat) : Int); omega) (by show (((l - 1) * X : Nat) : Int) < 9223372036854775808; omega)
  have e2 : V.int IntKind.i64 (w64 ((w64 (Int.ofNat (l - 1) * Int.ofNat X)).tdiv 65535)) = V.int IntKind.i64 (Int.ofNat (ixA l X)) := by
    rw [hw]
    have : (Int.ofNat ((l - 1) * X)).tdiv 65535 = Int.ofNat (ixA l X) := rfl
    rw [this]
    exact congrArg _ (wrap64 (by show -9223372036854775808 ≤ ((ixA l X : Nat) : Int); omega) (by show ((ixA l X : Nat) : Int) < 9223372036854775808; omega))
  have e3 : V.int IntKind.i64 ((w64 (Int.ofNat (l - 1) * Int.ofNat X)).tmod 65535) = V.int IntKind.i64 (Int.ofNat (frA l X)) := by
    rw [hw]; rfl
  have h0 : ∀ p ∈ vA0 l X, p := by
    simp only [List.mem_cons, List.not_mem_nil, or_false]
    rintro p (rfl | rfl | rfl | rfl)
    · exact e1
    · omega
    · exact e2
    · exact e3
  refine TG_ret XH mo _ (by kernel_rfl) (vl1 ks l c X) fun g hg hc => ?_
  simp only [List.mem_cons, List.not_mem_nil, or_false] at hg
  rcases hg with rfl | rfl
  · have hq : ixA l X = l - 1 := by
      have := hc _ (List.mem_singleton.2 rfl)
      have := eq_of_beq this
      exact Int.ofNat.inj this
    refine ⟨fun p hp => ?_, _, _, _, rfl, ?_⟩
    · rcases List.mem_append.1 hp with hp | hp
      · exact h0 p hp
      · simp only [List.mem_cons, List.not_mem_nil, or_false] at hp
        rcases hp with rfl | rfl
        · exact in_ofNat (by omega)
        · rw [z]; omega
    · rw [z, atR, if_pos hq]
  · have hq : ¬ ixA l X = l - 1 := by
      have := hc _ (List.mem_singleton.2 rfl)
      intro q
      rw [q] at this
      simp at this
    refine ⟨fun p hp => ?_, _, _, _, rfl, ?_⟩
    · rcases List.mem_append.1 hp with hp | hp
      · exact h0 p hp
      · simp only [List.mem_cons, List.not_mem_nil, or_false] at hp
        rcases hp with rfl | rfl | rfl | rfl | rfl | rfl
        · exact in_ofNat (by omega)
        · rw [z]; omega
        · exact up_ok (by omega)
        · exact in_ofNat (by omega)
        · rw [z]; omega
        · omega
    · rw [z, z, ← atV_eq h hX hq]; rfl
def SVl (nil : Bool) (l : Nat) (ks : List Int) (X : List V) : Option (List Prop × V) := match nil, X with
  | false, [.int .i64 (.ofNat x)] => some ([curveB l ks = true, l ≤ ks.length, x ≤ 65535], .int .i64 (atR ks l x))
  | _, _ => none
theorem pVl : PureA Try.prog 111 (rowSpec .i64 1 SVl) := by
  refine rowSpec_ok mo po (Nat.le_of_ble_eq_true (by kernel_rfl)) Try.func111 (code := bodyOf Try.f111) (by kernel_rfl) (fun nil l ks X A u e => ?_) (fun X A u c z e => ?_) (fun l ks X A u c e hA => ?_)
  · unfold SVl at e
    split at e
    · simp only [Option.some.injEq, Prod.mk.injEq] at e; obtain ⟨rfl, rfl⟩ := e
      exact ⟨rfl, rfl, by kernel_rfl⟩
    · cases e
  · unfold SVl at e; cases e
  · unfold SVl at e
    split at e
    · rename_i x _
      simp only [Option.some.injEq, Prod.mk.injEq] at e; obtain ⟨rfl, rfl⟩ := e
      exact tgVl ks l c x (hA (curveB l ks = true) (by simp)) (hA (l ≤ ks.length) (by simp)) (hA (x ≤ 65535) (by simp))
    · cases e
noncomputable abbrev WV : CtrW := addW 111 (readW (rowSpec .i64 1 SVl)) (addW 110 (pureW specFl) WH)
theorem WV_ok : CtrWOk Try.prog WV := addW_ok (readW_ok pVl) (addW_ok one_RF WH_ok)
noncomputable abbrev csV : CallS := callX Try.prog WV H0 1000 40
noncomputable abbrev XV : CX Try.prog := CX.of mo po WV_ok H0 1000 40
end Go.Proofs.Ytadejpmecljjpaa
