/- FilterApply: the reference's curve at a place, tone, rectangles that are admissible. No conditions. -/
import Derived.Test.YtadejpmecljjpaaFlApA
set_option linter.unusedVariables false
set_option linter.unusedSimpArgs false
set_option linter.unusedSectionVars false
namespace Go.Proofs.Ytadejpmecljjpaa
open Go Go.Eng
theorem ra1 (ks : List Int) (l c : Nat) (x : Int) : RunIs Try.prog csV [(9, .give (.bool false)), (13, .give (.int .i64 (Int.ofNat (clampN x))))] 1000 1 Try.f101 [] (bodyOf Try.f101) (startSt [sl l c, .int .i64 x] (rH [some (.i64, ks)]) 1)
    []
    [([],
      [(l ≤ ks.length), (l ≤ (1000 : Nat)), ((V.bool !curveB l ks) = V.bool false), (V.int IntKind.i64 (if (65535 : Int) < if (0 : Int) > x then (0 : Int) else x then (65535 : Int) else if (0 : Int) > x then (0 : Int) else x) = V.int IntKind.i64 (Int.ofNat (clampN x))), (curveB l (List.drop (0 : Nat) ks) = true), (l ≤ (List.drop (0 : Nat) ks).length), (clampN x ≤ (65535 : Nat))],
      .ret (.int .i64 (atR (List.drop (0 : Nat) ks) l (clampN x))) (hL [(0, .ints .i64 (ks))]) 1)]
  := by unfold RunIs; kernel_rfl
def SAr (nil : Bool) (l : Nat) (ks : List Int) (X : List V) : Option (List Prop × V) := match nil, X with
  | false, [.int .i64 x] => some ([curveB l ks = true, l ≤ ks.length, l ≤ 1000], .int .i64 (atR ks l (clampN x)))
  | _, _ => none
theorem pAr : PureA Try.prog 101 (rowSpec .i64 1 SAr) := by
  refine rowSpec_ok mo po (Nat.le_of_ble_eq_true (by kernel_rfl)) Try.func101 (code := bodyOf Try.f101) (by kernel_rfl) (fun nil l ks X A u e => ?_) (fun X A u c z e => ?_) (fun l ks X A u c e hA => ?_)
  · unfold SAr at e
    split at e
    · simp only [Option.some.injEq, Prod.mk.injEq] at e; obtain ⟨rfl, rfl⟩ := e
      exact ⟨rfl, rfl, by kernel_rfl⟩
    · cases e
  · unfold SAr at e; cases e
  · unfold SAr at e
    split at e
    · rename_i x _
      simp only [Option.some.injEq, Prod.mk.injEq] at e; obtain ⟨rfl, rfl⟩ := e
      have h1 := hA (curveB l ks = true) (by simp)
      have h2 := hA (l ≤ ks.length) (by simp)
      have h3 := hA (l ≤ 1000) (by simp)
      refine TG_ret XV mo _ (by kernel_rfl) (ra1 ks l c x) fun g hg hc => ?_
      rw [List.mem_singleton] at hg; subst hg
      refine ⟨fun p hp => ?_, _, _, _, rfl, rfl⟩
      simp only [List.mem_cons, List.not_mem_nil, or_false] at hp
      rcases hp with rfl | rfl | rfl | rfl | rfl | rfl | rfl
      · exact h2
      · exact h3
      · rw [h1]; rfl
      · exact clamp_eq x
      · exact h1
      · exact h2
      · exact clampN_le x
    · cases e
noncomputable abbrev WV2 : CtrW := addW 101 (readW (rowSpec .i64 1 SAr)) WV
theorem WV2_ok : CtrWOk Try.prog WV2 := addW_ok (readW_ok pAr) WV_ok
noncomputable abbrev csV2 : CallS := callX Try.prog WV2 H0 1000 40
noncomputable abbrev XV2 : CX Try.prog := CX.of mo po WV2_ok H0 1000 40
theorem rt1 (ks : List Int) (l c : Nat) (p : Int) : RunIs Try.prog csV2 [] 1000 1 Try.f77 [] (bodyOf Try.f77) (startSt [sl l c, .int .u8 p] (rH [some (.i64, ks)]) 1)
    []
    [([],
      [(curveB l (List.drop (0 : Nat) ks) = true), (l ≤ (List.drop (0 : Nat) ks).length), (l ≤ (1000 : Nat))],
      .ret (.int .u8 (IntKind.u8.wrap (floorI (IntKind.i64.wrap (IntKind.i64.wrap ((2 : Int) * atR (List.drop (0 : Nat) ks) l (clampN (IntKind.i64.wrap ((257 : Int) * IntKind.i64.wrap p)))) + (257 : Int))) (514 : Int)))) (hL [(0, .ints .i64 (ks))]) 1)]
  := by unfold RunIs; kernel_rfl
theorem round_clamp {a : Int} (h : 0 ≤ a ∧ a ≤ 65535) : floorI (w64 (w64 (2 * a) + 257)) 514 = roundI a 257 := by
  have e1 : w64 (2 * 257) = 514 := by decide
  have e2 : w64 (w64 (2 * a) + 257) = 2 * a + 257 := by rw [w64_id (x := 2 * a) (by omega) (by omega)]; exact w64_id (by omega) (by omega)
  have e3 : floorI (2 * a + 257) 514 = (2 * a + 257) / 514 := by
    rw [floorI_pos (by omega) (by omega)]; exact w64_id (by omega) (by omega)
  rw [roundI_pos h.1 (by omega) (by omega) (by omega), e2, e3]
  have : (2 * a + 257) / (2 * 257) = (2 * a + 257) / 514 := rfl
  rw [this, if_neg (by omega)]
def STo (nil : Bool) (l : Nat) (ks : List Int) (X : List V) : Option (List Prop × V) := match nil, X with
  | false, [.int .u8 p] => some ([curveB l ks = true, l ≤ ks.length, l ≤ 1000], .int .u8 (tonC ks l p))
  | _, _ => none
theorem pTo : PureA Try.prog 77 (rowSpec .i64 1 STo) := by
  refine rowSpec_ok mo po (Nat.le_of_ble_eq_true (by kernel_rfl)) Try.func77 (code := bodyOf Try.f77) (by kernel_rfl) (fun nil l ks X A u e => ?_) (fun X A u c z e => ?_) (fun l ks X A u c e hA => ?_)
  · unfold STo at e
    split at e
    · simp only [Option.some.injEq, Prod.mk.injEq] at e; obtain ⟨rfl, rfl⟩ := e
      exact ⟨rfl, rfl, by kernel_rfl⟩
    · cases e
  · unfold STo at e; cases e
  · unfold STo at e
    split at e
    · rename_i p _
      simp only [Option.some.injEq, Prod.mk.injEq] at e; obtain ⟨rfl, rfl⟩ := e
      have h1 := hA (curveB l ks = true) (by simp)
      have h2 := hA (l ≤ ks.length) (by simp)
      have h3 := hA (l ≤ 1000) (by simp)
      refine TG_ret XV2 mo _ (by kernel_rfl) (rt1 ks l c p) fun g hg hc => ?_
      rw [List.mem_singleton] at hg; subst hg
      refine ⟨fun q hq => ?_, _, _, _, rfl, ?_⟩
      · simp only [List.mem_cons, List.not_mem_nil, or_false] at hq
        rcases hq with rfl | rfl | rfl
        · exact h1
        · exact h2
        · exact h3
      · unfold tonC curveAt
        rw [if_pos h1, ← round_clamp (atR_rng h1 (clampN_le _))]; rfl
    · cases e
theorem rad (a b c d : Int) : RunIs Try.prog csV [(21, .split), (26, .split)] 1000 0 Try.f49 [] (bodyOf Try.f49) (startSt [.agg [.int .i64 a, .int .i64 b, .int .i64 c, .int .i64 d]] .nil 0)
    []
    [([((decide (a < (-1048576 : Int))), true)],
      [((0 : Int) ≤ (0 : Int) ∧ (0 : Int) < (4 : Int))],
      .ret (.bool false) (hL []) 0),
    ([((decide (a < (-1048576 : Int))), false), ((decide (a > (1048576 : Int))), true)],
      [((0 : Int) ≤ (0 : Int) ∧ (0 : Int) < (4 : Int)), ((0 : Int) ≤ (0 : Int) ∧ (0 : Int) < (4 : Int))],
      .ret (.bool false) (hL []) 0),
    ([((decide (a < (-1048576 : Int))), false), ((decide (a > (1048576 : Int))), false), ((decide (b < (-1048576 : Int))), true)],
      [((0 : Int) ≤ (0 : Int) ∧ (0 : Int) < (4 : Int)), ((0 : Int) ≤ (0 : Int) ∧ (0 : Int) < (4 : Int)), ((0 : Int) ≤ (1 : Int) ∧ (1 : Int) < (4 : Int))],
      .ret (.bool false) (hL []) 0),
    ([((decide (a < (-1048576 : Int))), false), ((decide (a > (1048576 : Int))), false), ((decide (b < (-1048576 : Int))), false), ((decide (b > (1048576 : Int))), true)],
      [((0 : Int) ≤ (0 : Int) ∧ (0 : Int) < (4 : Int)), ((0 : Int) ≤ (0 : Int) ∧ (0 : Int) < (4 : Int)), ((0 : Int) ≤ (1 : Int) ∧ (1 : Int) < (4 : Int)), ((0 : Int) ≤ (1 : Int) ∧ (1 : Int) < (4 : Int))],
      .ret (.bool false) (hL []) 0),
    ([((decide (a < (-1048576 : Int))), false), ((decide (a > (1048576 : Int))), false), ((decide (b < (-1048576 : Int))), false), ((decide (b > (1048576 : Int))), false), ((decide (c < (-1048576 : Int))), true)],
      [((0 : Int) ≤ (0 : Int) ∧ (0 : Int) < (4 : Int)), ((0 : Int) ≤ (0 : Int) ∧ (0 : Int) < (4 : Int)), ((0 : Int) ≤ (1 : Int) ∧ (1 : Int) < (4 : Int)), ((0 : Int) ≤ (1 : Int) ∧ (1 : Int) < (4 : Int)), ((0 : Int) ≤ (2 : Int) ∧ (2 : Int) < (4 : Int))],
      .ret (.bool false) (hL []) 0),
    ([((decide (a < (-1048576 : Int))), false), ((decide (a > (1048576 : Int))), false), ((decide (b < (-1048576 : Int))), false), ((decide (b > (1048576 : Int))), false), ((decide (c < (-1048576 : Int))), false), ((decide (c > (1048576 : Int))), true)],
      [((0 : Int) ≤ (0 : Int) ∧ (0 : Int) < (4 : Int)), ((0 : Int) ≤ (0 : Int) ∧ (0 : Int) < (4 : Int)), ((0 : Int) ≤ (1 : Int) ∧ (1 : Int) < (4 : Int)), ((0 : Int) ≤ (1 : Int) ∧ (1 : Int) < (4 : Int)), ((0 : Int) ≤ (2 : Int) ∧ (2 : Int) < (4 : Int)), ((0 : Int) ≤ (2 : Int) ∧ (2 : Int) < (4 : Int))],
      .ret (.bool false) (hL []) 0),
    ([((decide (a < (-1048576 : Int))), false), ((decide (a > (1048576 : Int))), false), ((decide (b < (-1048576 : Int))), false), ((decide (b > (1048576 : Int))), false), ((decide (c < (-1048576 : Int))), false), ((decide (c > (1048576 : Int))), false), ((decide (d < (-1048576 : Int))), true)],
      [((0 : Int) ≤ (0 : Int) ∧ (0 : Int) < (4 : Int)), ((0 : Int) ≤ (0 : Int) ∧ (0 : Int) < (4 : Int)), ((0 : Int) ≤ (1 : Int) ∧ (1 : Int) < (4 : Int)), ((0 : Int) ≤ (1 : Int) ∧ (1 : Int) < (4 : Int)), ((0 : Int) ≤ (2 : Int) ∧ (2 : Int) < (4 : Int)), ((0 : Int) ≤ (2 : Int) ∧ (2 : Int) < (4 : Int)), ((0 : Int) ≤ (3 : Int) ∧ (3 : Int) < (4 : Int))],
      .ret (.bool false) (hL []) 0),
    ([((decide (a < (-1048576 : Int))), false), ((decide (a > (1048576 : Int))), false), ((decide (b < (-1048576 : Int))), false), ((decide (b > (1048576 : Int))), false), ((decide (c < (-1048576 : Int))), false), ((decide (c > (1048576 : Int))), false), ((decide (d < (-1048576 : Int))), false), ((decide (d > (1048576 : Int))), true)],
      [((0 : Int) ≤ (0 : Int) ∧ (0 : Int) < (4 : Int)), ((0 : Int) ≤ (0 : Int) ∧ (0 : Int) < (4 : Int)), ((0 : Int) ≤ (1 : Int) ∧ (1 : Int) < (4 : Int)), ((0 : Int) ≤ (1 : Int) ∧ (1 : Int) < (4 : Int)), ((0 : Int) ≤ (2 : Int) ∧ (2 : Int) < (4 : Int)), ((0 : Int) ≤ (2 : Int) ∧ (2 : Int) < (4 : Int)), ((0 : Int) ≤ (3 : Int) ∧ (3 : Int) < (4 : Int)), ((0 : Int) ≤ (3 : Int) ∧ (3 : Int) < (4 : Int))],
      .ret (.bool false) (hL []) 0),
    ([((decide (a < (-1048576 : Int))), false), ((decide (a > (1048576 : Int))), false), ((decide (b < (-1048576 : Int))), false), ((decide (b > (1048576 : Int))), false), ((decide (c < (-1048576 : Int))), false), ((decide (c > (1048576 : Int))), false), ((decide (d < (-1048576 : Int))), false), ((decide (d > (1048576 : Int))), false)],
      [((0 : Int) ≤ (0 : Int) ∧ (0 : Int) < (4 : Int)), ((0 : Int) ≤ (0 : Int) ∧ (0 : Int) < (4 : Int)), ((0 : Int) ≤ (1 : Int) ∧ (1 : Int) < (4 : Int)), ((0 : Int) ≤ (1 : Int) ∧ (1 : Int) < (4 : Int)), ((0 : Int) ≤ (2 : Int) ∧ (2 : Int) < (4 : Int)), ((0 : Int) ≤ (2 : Int) ∧ (2 : Int) < (4 : Int)), ((0 : Int) ≤ (3 : Int) ∧ (3 : Int) < (4 : Int)), ((0 : Int) ≤ (3 : Int) ∧ (3 : Int) < (4 : Int))],
      .ret (.bool true) (hL []) 0)]
  := by unfold RunIs; kernel_rfl
theorem tgRad (a b c d : Int) : TG Try.prog 0 Try.f49.ntmps (bodyOf Try.f49) (startSt [.agg [.int .i64 a, .int .i64 b, .int .i64 c, .int .i64 d]] .nil 0) (RetG Try.prog 0 Try.f49 fun z _ _ => z = .bool (admB a b c d)) := by
  have ff : ¬ (m20 a ∧ m20 b ∧ m20 c ∧ m20 d) → V.bool false = V.bool (admB a b c d) := fun h => by
    cases q : admB a b c d with
    | false => rfl
    | true => exact absurd (admB_iff q) h
  refine TG_ret XV mo _ (by kernel_rfl) (rad a b c d) fun g hg hc => ?_
  simp only [List.mem_cons, List.not_mem_nil, or_false] at hg
  rcases hg with rfl | rfl | rfl | rfl | rfl | rfl | rfl | rfl | rfl <;> (refine ⟨by simp, _, _, _, rfl, ?_⟩; simp only [List.mem_cons, List.not_mem_nil, or_false, forall_eq_or_imp, forall_eq, decide_eq_true_eq, decide_eq_false_iff_not] at hc)
  · exact ff fun ⟨⟨h, _⟩, _⟩ => by omega
  · exact ff fun ⟨⟨_, h⟩, _⟩ => by omega
  · exact ff fun ⟨_, ⟨h, _⟩, _⟩ => by omega
  · exact ff fun ⟨_, ⟨_, h⟩, _⟩ => by omega
  · exact ff fun ⟨_, _, ⟨h, _⟩, _⟩ => by omega
  · exact ff fun ⟨_, _, ⟨_, h⟩, _⟩ => by omega
  · exact ff fun ⟨_, _, _, ⟨h, _⟩⟩ => by omega
  · exact ff fun ⟨_, _, _, ⟨_, h⟩⟩ => by omega
  · rw [adm_ok ⟨by omega, by omega⟩ ⟨by omega, by omega⟩ ⟨by omega, by omega⟩ ⟨by omega, by omega⟩]
theorem one_Rad : OneW Try.prog 49 (pureW specAd) := by
  refine pureW_ok (Nat.le_of_ble_eq_true (by kernel_rfl)) fun args A v e => ?_
  unfold specAd at e
  split at e
  · simp only [Option.some.injEq, Prod.mk.injEq] at e; obtain ⟨rfl, rfl⟩ := e
    exact ⟨rfl, rfl, fun _ => pure_calls mo po Try.func49 (by kernel_rfl) (by kernel_rfl) rfl (tgRad _ _ _ _)⟩
  · cases e
noncomputable abbrev WV3 : CtrW := addW 77 (readW (rowSpec .i64 1 STo)) (addW 49 (pureW specAd) WV2)
theorem WV3_ok : CtrWOk Try.prog WV3 := addW_ok (readW_ok pTo) (addW_ok one_Rad WV2_ok)
noncomputable abbrev csV3 : CallS := callX Try.prog WV3 H0 1000 40
noncomputable abbrev XV3 : CX Try.prog := CX.of mo po WV3_ok H0 1000 40
end Go.Proofs.Ytadejpmecljjpaa
