/- Filter laws anew, part Q: quotients, curves at a place. No conditions. -/
import Derived.Test.YtadejpmecljjpaaFlThree
import Derived.Test.YtadejpmecljjpaaEngEight
set_option linter.unusedVariables false
set_option linter.unusedSimpArgs false
set_option linter.unusedSectionVars false
namespace Go.Proofs.Ytadejpmecljjpaa
open Go Go.Eng
theorem fl1 (a b : Int) : RunIs Try.prog cs5 [(6, .split), (10, .split), (16, .split)] 1000 0 Try.f106 [] (bodyOf Try.f106) (startSt [.int .i64 a, .int .i64 b] .nil 0)
    []
    [([((b == (0 : Int)), true)],
      [],
      .ret (.int .i64 0) (hL []) 0),
    ([((b == (0 : Int)), false), ((a.tmod b != (0 : Int)), true), ((!decide (a < (0 : Int)) == decide (b < (0 : Int))), true)],
      [(b ≠ (0 : Int)), (b ≠ (0 : Int))],
      .ret (.int .i64 (IntKind.i64.wrap (IntKind.i64.wrap (a.tdiv b) - (1 : Int)))) (hL []) 0),
    ([((b == (0 : Int)), false), ((a.tmod b != (0 : Int)), true), ((!decide (a < (0 : Int)) == decide (b < (0 : Int))), false)],
      [(b ≠ (0 : Int)), (b ≠ (0 : Int))],
      .ret (.int .i64 (IntKind.i64.wrap (a.tdiv b))) (hL []) 0),
    ([((b == (0 : Int)), false), ((a.tmod b != (0 : Int)), false)],
      [(b ≠ (0 : Int)), (b ≠ (0 : Int))],
      .ret (.int .i64 (IntKind.i64.wrap (a.tdiv b))) (hL []) 0)]
  := by unfold RunIs; kernel_rfl
def floorI (a b : Int) : Int := if b = 0 then 0 else if a.tmod b ≠ 0 ∧ decide (a < 0) ≠ decide (b < 0) then w64 (w64 (a.tdiv b) - 1) else w64 (a.tdiv b)
theorem tgFl (a b : Int) : TG Try.prog 0 Try.f106.ntmps (bodyOf Try.f106) (startSt [.int .i64 a, .int .i64 b] .nil 0) (RetG Try.prog 0 Try.f106 fun v _ _ => v = .int .i64 (floorI a b)) := by
  refine TG_ret X5 mo _ (by kernel_rfl) (fl1 a b) fun g hg hc => ?_
  simp only [List.mem_cons, List.not_mem_nil, or_false] at hg
  rcases hg with rfl | rfl | rfl | rfl <;> simp only [List.mem_cons, List.not_mem_nil, or_false, forall_eq_or_imp, forall_eq] at hc
  · have h1 : b = 0 := by simpa using hc
    exact ⟨by simp, _, _, _, rfl, by simp [floorI, h1]⟩
  · have h1 : b ≠ 0 := by simpa using hc.1
    have h2 : a.tmod b ≠ 0 := by simpa using hc.2.1
    have h3 : decide (a < 0) ≠ decide (b < 0) := by simpa using hc.2.2
    exact ⟨by simp [h1], _, _, _, rfl, by rw [floorI, if_neg h1, if_pos ⟨h2, h3⟩]; rfl⟩
  · have h1 : b ≠ 0 := by simpa using hc.1
    have h3 : ¬ decide (a < 0) ≠ decide (b < 0) := by simpa using hc.2.2
    exact ⟨by simp [h1], _, _, _, rfl, by rw [floorI, if_neg h1, if_neg (fun q => h3 q.2)]; rfl⟩
  · have h1 : b ≠ 0 := by simpa using hc.1
    have h2 : ¬ a.tmod b ≠ 0 := by simpa using hc.2
    exact ⟨by simp [h1], _, _, _, rfl, by rw [floorI, if_neg h1, if_neg (fun q => h2 q.1)]; rfl⟩
def specFl : List V → Option (List Prop × V)
  | [.int .i64 a, .int .i64 b] => some ([], .int .i64 (floorI a b))
  | _ => none
theorem one_Fl : OneW Try.prog 106 (pureW specFl) := by
  refine pureW_ok (Nat.le_of_ble_eq_true (by kernel_rfl)) fun args A v e => ?_
  unfold specFl at e
  split at e
  · simp only [Option.some.injEq, Prod.mk.injEq] at e; obtain ⟨rfl, rfl⟩ := e
    exact ⟨rfl, rfl, fun _ => pure_calls mo po Try.func106 (by kernel_rfl) (by kernel_rfl) rfl (tgFl _ _)⟩
  · cases e
noncomputable abbrev W7 : CtrW := addW 106 (pureW specFl) W5
theorem W7_ok : CtrWOk Try.prog W7 := addW_ok one_Fl W5_ok
noncomputable abbrev cs7 : CallS := callX Try.prog W7 H0 1000 40
noncomputable abbrev X7 : CX Try.prog := CX.of mo po W7_ok H0 1000 40
theorem ro1 (n d : Int) : RunIs Try.prog cs7 [] 1000 0 Try.f89 [] (bodyOf Try.f89) (startSt [.int .i64 n, .int .i64 d] .nil 0)
    []
    [([],
      [],
      .ret (.int .i64 (if (if (255 : Int) < floorI (IntKind.i64.wrap (IntKind.i64.wrap ((2 : Int) * n) + d)) (IntKind.i64.wrap ((2 : Int) * d)) then (255 : Int) else floorI (IntKind.i64.wrap (IntKind.i64.wrap ((2 : Int) * n) + d)) (IntKind.i64.wrap ((2 : Int) * d))) > (0 : Int) then if (255 : Int) < floorI (IntKind.i64.wrap (IntKind.i64.wrap ((2 : Int) * n) + d)) (IntKind.i64.wrap ((2 : Int) * d)) then (255 : Int) else floorI (IntKind.i64.wrap (IntKind.i64.wrap ((2 : Int) * n) + d)) (IntKind.i64.wrap ((2 : Int) * d)) else (0 : Int))) (hL []) 0)]
  := by unfold RunIs; kernel_rfl
def roundI (n d : Int) : Int := if (if (255 : Int) < floorI (w64 (w64 (2 * n) + d)) (w64 (2 * d)) then (255 : Int) else floorI (w64 (w64 (2 * n) + d)) (w64 (2 * d))) > (0 : Int) then (if (255 : Int) < floorI (w64 (w64 (2 * n) + d)) (w64 (2 * d)) then (255 : Int) else floorI (w64 (w64 (2 * n) + d)) (w64 (2 * d))) else (0 : Int)
theorem tgRo (n d : Int) : TG Try.prog 0 Try.f89.ntmps (bodyOf Try.f89) (startSt [.int .i64 n, .int .i64 d] .nil 0) (RetG Try.prog 0 Try.f89 fun v _ _ => v = .int .i64 (roundI n d)) := by
  refine TG_ret X7 mo _ (by kernel_rfl) (ro1 n d) fun g hg hc => ?_
  rw [List.mem_singleton] at hg; subst hg
  exact ⟨by simp, _, _, _, rfl, rfl⟩
def specRo : List V → Option (List Prop × V)
  | [.int .i64 n, .int .i64 d] => some ([], .int .i64 (roundI n d))
  | _ => none
theorem one_Ro : OneW Try.prog 89 (pureW specRo) := by
  refine pureW_ok (Nat.le_of_ble_eq_true (by kernel_rfl)) fun args A v e => ?_
  unfold specRo at e
  split at e
  · simp only [Option.some.injEq, Prod.mk.injEq] at e; obtain ⟨rfl, rfl⟩ := e
    exact ⟨rfl, rfl, fun _ => pure_calls mo po Try.func89 (by kernel_rfl) (by kernel_rfl) rfl (tgRo _ _)⟩
  · cases e
abbrev ixA (l X : Nat) : Nat := (l - 1) * X / 65535
abbrev frA (l X : Nat) : Nat := (l - 1) * X % 65535
abbrev HA (l X : Nat) : List (Nat × Fix) := [(10, .give (.int .i64 (Int.ofNat (l - 1)))), (14, .give (.int .i64 (Int.ofNat (ixA l X)))), (18, .give (.int .i64 (Int.ofNat (frA l X)))), (21, .split), (35, .give (.int .i64 (Int.ofNat (ixA l X + 1))))]
theorem at1 (ks : List Int) (l c X : Nat) : RunIs Try.prog cs7 (HA l X) 1000 1 Try.f107 [] (bodyOf Try.f107) (startSt [sl l c, .int .i64 (Int.ofNat X)] (rH [some (.i64, ks)]) 1)
    []
    [([((Int.ofNat (ixA l X) == Int.ofNat (l - (1 : Nat))), true)],
      [(V.int IntKind.i64 (IntKind.i64.wrap (↑l - (1 : Int))) = V.int IntKind.i64 (Int.ofNat (l - (1 : Nat)))), ((65535 : Int) ≠ (0 : Int)), (V.int IntKind.i64 (IntKind.i64.wrap ((IntKind.i64.wrap (Int.ofNat (l - (1 : Nat)) * Int.ofNat X)).tdiv (65535 : Int))) = V.int IntKind.i64 (Int.ofNat (ixA l X))), (V.int IntKind.i64 ((IntKind.i64.wrap (Int.ofNat (l - (1 : Nat)) * Int.ofNat X)).tmod (65535 : Int)) = V.int IntKind.i64 (Int.ofNat (frA l X))), ((0 : Int) ≤ Int.ofNat (l - (1 : Nat)) ∧ Int.ofNat (l - (1 : Nat)) < ↑l), ((0 : Nat) + (Int.ofNat (l - (1 : Nat))).toNat * (1 : Nat) < ks.length)],
      .ret (.int .i64 (ks.getD ((0 : Nat) + (Int.ofNat (l - (1 : Nat))).toNat * (1 : Nat)) (0 : Int))) (hL [(0, .ints .i64 (ks))]) 1),
    ([((Int.ofNat (ixA l X) == Int.ofNat (l - (1 : Nat))), false)],
      [(V.int IntKind.i64 (IntKind.i64.wrap (↑l - (1 : Int))) = V.int IntKind.i64 (Int.ofNat (l - (1 : Nat)))), ((65535 : Int) ≠ (0 : Int)), (V.int IntKind.i64 (IntKind.i64.wrap ((IntKind.i64.wrap (Int.ofNat (l - (1 : Nat)) * Int.ofNat X)).tdiv (65535 : Int))) = V.int IntKind.i64 (Int.ofNat (ixA l X))), (V.int IntKind.i64 ((IntKind.i64.wrap (Int.ofNat (l - (1 : Nat)) * Int.ofNat X)).tmod (65535 : Int)) = V.int IntKind.i64 (Int.ofNat (frA l X))), ((0 : Int) ≤ Int.ofNat (ixA l X) ∧ Int.ofNat (ixA l X) < ↑l), ((0 : Nat) + (Int.ofNat (ixA l X)).toNat * (1 : Nat) < ks.length), (V.int IntKind.i64 (IntKind.i64.wrap (Int.ofNat (ixA l X) + (1 : Int))) = V.int IntKind.i64 (Int.ofNat (ixA l X + (1 : Nat)))), ((0 : Int) ≤ Int.ofNat (ixA l X + (1 : Nat)) ∧ Int.ofNat (ixA l X + (1 : Nat)) < ↑l), ((0 : Nat) + (Int.ofNat (ixA l X + (1 : Nat))).toNat * (1 : Nat) < ks.length), ((65535 : Int) ≠ (0 : Int))],
      .ret (.int .i64 (IntKind.i64.wrap ((IntKind.i64.wrap (IntKind.i64.wrap (IntKind.i64.wrap (ks.getD ((0 : Nat) + (Int.ofNat (ixA l X)).toNat * (1 : Nat)) (0 : Int) * IntKind.i64.wrap ((65535 : Int) - Int.ofNat (frA l X))) + IntKind.i64.wrap (ks.getD ((0 : Nat) + (Int.ofNat (ixA l X + (1 : Nat))).toNat * (1 : Nat)) (0 : Int) * Int.ofNat (frA l X))) + (32767 : Int))).tdiv (65535 : Int)))) (hL [(0, .ints .i64 (ks))]) 1)]
  := by unfold RunIs; kernel_rfl
def atR (ks : List Int) (l X : Nat) : Int := if ixA l X = l - 1 then ks.getD (l - 1) 0 else
  w64 ((w64 (w64 (w64 (ks.getD (ixA l X) 0 * w64 (65535 - Int.ofNat (frA l X))) + w64 (ks.getD (ixA l X + 1) 0 * Int.ofNat (frA l X))) + 32767)).tdiv 65535)
theorem tgAt (ks : List Int) (l c X : Nat) (h1 : 2 ≤ l) (h2 : l ≤ 257) (h3 : l ≤ ks.length) (hX : X ≤ 65535) : TG Try.prog 1 Try.f107.ntmps (bodyOf Try.f107) (startSt [sl l c, .int .i64 (Int.ofNat X)] (rH [some (.i64, ks)]) 1) (RetG Try.prog 1 Try.f107 fun v _ _ => v = .int .i64 (atR ks l X)) := by
  have z : ∀ i : Nat, (0 : Nat) + (Int.ofNat i).toNat * (1 : Nat) = i := by intro i; show 0 + i * 1 = i; omega
  have hm : (l - 1) * X ≤ 256 * 65535 := Nat.mul_le_mul (by omega) hX
  have hle : ixA l X ≤ l - 1 := by
    unfold ixA
    apply Nat.div_le_of_le_mul
    rw [Nat.mul_comm 65535]
    exact Nat.mul_le_mul_left _ hX
  have e1 : V.int IntKind.i64 (IntKind.i64.wrap ((l : Int) - (1 : Int))) = V.int IntKind.i64 (Int.ofNat (l - (1 : Nat))) := down_ok (by omega) (by omega)
  have hmul : Int.ofNat (l - 1) * Int.ofNat X = Int.ofNat ((l - 1) * X) := by simp
  have hw : IntKind.i64.wrap (Int.ofNat (l - 1) * Int.ofNat X) = Int.ofNat ((l - 1) * X) := by
    rw [hmul]
    exact wrap64 (by show -9223372036854775808 ≤ (((l - 1) * X : Nat) : Int); omega) (by show (((l - 1) * X : Nat) : Int) < 9223372036854775808; omega)
  have e2 : V.int IntKind.i64 (IntKind.i64.wrap ((IntKind.i64.wrap (Int.ofNat (l - 1) * Int.ofNat X)).tdiv 65535)) = V.int IntKind.i64 (Int.ofNat (ixA l X)) := by
    rw [hw]
    have : (Int.ofNat ((l - 1) * X)).tdiv 65535 = Int.ofNat (ixA l X) := rfl
    rw [this, wrap64 (by show -9223372036854775808 ≤ ((ixA l X : Nat) : Int); omega) (by show ((ixA l X : Nat) : Int) < 9223372036854775808; omega)]
  have e3 : V.int IntKind.i64 ((IntKind.i64.wrap (Int.ofNat (l - 1) * Int.ofNat X)).tmod 65535) = V.int IntKind.i64 (Int.ofNat (frA l X)) := by
    rw [hw]; rfl
  refine TG_ret X7 mo _ (by kernel_rfl) (at1 ks l c X) fun g hg hc => ?_
  simp only [List.mem_cons, List.not_mem_nil, or_false] at hg
  rcases hg with rfl | rfl
  · have h : ixA l X = l - 1 := by
      have := hc _ (List.mem_singleton.2 rfl)
      have := eq_of_beq this
      exact Int.ofNat.inj this
    refine ⟨?_, _, _, _, rfl, ?_⟩
    · (repeat' first | exact List.forall_mem_nil _ | refine List.forall_mem_cons.2 ⟨?_, ?_⟩) <;> first | exact e1 | exact e2 | exact e3 | exact in_ofNat (by omega) | (rw [z]; omega) | omega
    · rw [z, atR, if_pos h]
  · have h : ¬ ixA l X = l - 1 := by
      have := hc _ (List.mem_singleton.2 rfl)
      intro q
      rw [q] at this
      simp at this
    refine ⟨?_, _, _, _, rfl, ?_⟩
    · (repeat' first | exact List.forall_mem_nil _ | refine List.forall_mem_cons.2 ⟨?_, ?_⟩) <;> first | exact e1 | exact e2 | exact e3 | exact in_ofNat (by omega) | exact up_ok (by omega) | (rw [z]; omega) | omega
    · rw [z, z, atR, if_neg h]; rfl
end Go.Proofs.Ytadejpmecljjpaa
namespace Go.Proofs.Ytadejpmecljjpaa
open Go Go.Eng
def SAt (nil : Bool) (l : Nat) (ks : List Int) (X : List V) : Option (List Prop × V) := match nil, X with
  | false, [.int .i64 (.ofNat x)] => some ([2 ≤ l, l ≤ 257, l ≤ ks.length, x ≤ 65535], .int .i64 (atR ks l x))
  | _, _ => none
theorem pAt : PureA Try.prog 107 (rowSpec .i64 1 SAt) := by
  refine rowSpec_ok mo po (Nat.le_of_ble_eq_true (by kernel_rfl)) Try.func107 (code := bodyOf Try.f107) (by kernel_rfl) (fun nil l ks X A u e => ?_) (fun X A u c z e => ?_) (fun l ks X A u c e hA => ?_)
  · unfold SAt at e
    split at e
    · simp only [Option.some.injEq, Prod.mk.injEq] at e; obtain ⟨rfl, rfl⟩ := e
      exact ⟨rfl, rfl, by kernel_rfl⟩
    · cases e
  · unfold SAt at e; cases e
  · unfold SAt at e
    split at e
    · rename_i x _
      simp only [Option.some.injEq, Prod.mk.injEq] at e; obtain ⟨rfl, rfl⟩ := e
      have h1 := hA (2 ≤ l) (by simp)
      have h2 := hA (l ≤ 257) (by simp)
      have h3 := hA (l ≤ ks.length) (by simp)
      have h4 := hA (x ≤ 65535) (by simp)
      exact tgAt ks l c x h1 h2 h3 h4
    · cases e
noncomputable abbrev W8 : CtrW := addW 107 (readW (rowSpec .i64 1 SAt)) (addW 89 (pureW specRo) W7)
theorem W8_ok : CtrWOk Try.prog W8 := addW_ok (readW_ok pAt) (addW_ok one_Ro W7_ok)
noncomputable abbrev cs8 : CallS := callX Try.prog W8 H0 1000 40
noncomputable abbrev X8 : CX Try.prog := CX.of mo po W8_ok H0 1000 40
def clampN (x : Int) : Nat := (if (65535 : Int) < (if (0 : Int) > x then (0 : Int) else x) then (65535 : Int) else (if (0 : Int) > x then (0 : Int) else x)).toNat
theorem clampN_le (x : Int) : clampN x ≤ 65535 := by unfold clampN; split <;> (try split) <;> omega
theorem At1 (ks : List Int) (l c : Nat) (x : Int) : RunIs Try.prog cs8 [(6, .split), (11, .give (.int .i64 (Int.ofNat (clampN x))))] 1000 1 Try.f93 [] (bodyOf Try.f93) (startSt [sl l c, .int .i64 x] (rH [some (.i64, ks)]) 1)
    []
    [([((curveB l ks), true)],
      [(l ≤ ks.length), (l ≤ (1000 : Nat)), (V.int IntKind.i64 (if (65535 : Int) < if (0 : Int) > x then (0 : Int) else x then (65535 : Int) else if (0 : Int) > x then (0 : Int) else x) = V.int IntKind.i64 (Int.ofNat (clampN x))), ((2 : Nat) ≤ l), (l ≤ (257 : Nat)), (l ≤ (List.drop (0 : Nat) ks).length), (clampN x ≤ (65535 : Nat))],
      .ret (.int .i64 (atR (List.drop (0 : Nat) ks) l (clampN x))) (hL [(0, .ints .i64 (ks))]) 1),
    ([((curveB l ks), false)],
      [(l ≤ ks.length), (l ≤ (1000 : Nat))],
      .ret (.int .i64 0) (hL [(0, .ints .i64 (ks))]) 1)]
  := by unfold RunIs; kernel_rfl
theorem At0 (c z : Nat) (x : Int) : RunIs Try.prog cs8 [(11, .give (.int .i64 (Int.ofNat (clampN x))))] 1000 1 Try.f93 [] (bodyOf Try.f93) (startSt [.slc none 0 c z, .int .i64 x] (rH [none]) 1)
    []
    [([],
      [((0 : Nat) ≤ (0 : Nat)), ((0 : Nat) ≤ (1000 : Nat))],
      .ret (.int .i64 0) (hL []) 1)]
  := by unfold RunIs; kernel_rfl
def curveAt (ks : List Int) (l : Nat) (x : Int) : Int := if curveB l ks = true then atR ks l (clampN x) else 0
theorem curveB_two {l : Nat} {ks : List Int} (h : curveB l ks = true) : 2 ≤ l ∧ l ≤ 257 := by
  unfold curveB pointsB at h
  simp only [Bool.and_eq_true, decide_eq_true_eq] at h
  have h1 : (l : Int) ≥ 2 := h.1.1
  have h2 : (l : Int) ≤ 257 := h.1.2
  omega
def SAt2 (nil : Bool) (l : Nat) (ks : List Int) (X : List V) : Option (List Prop × V) := match X with
  | [.int .i64 x] => some ([l ≤ ks.length, l ≤ 1000], .int .i64 (curveAt ks l x))
  | _ => none
theorem clamp_eq (x : Int) : V.int IntKind.i64 (if (65535 : Int) < (if (0 : Int) > x then (0 : Int) else x) then (65535 : Int) else (if (0 : Int) > x then (0 : Int) else x)) = V.int IntKind.i64 (Int.ofNat (clampN x)) := by
  congr 1
  unfold clampN
  have : 0 ≤ (if (65535 : Int) < (if (0 : Int) > x then (0 : Int) else x) then (65535 : Int) else (if (0 : Int) > x then (0 : Int) else x)) := by split <;> (try split) <;> omega
  exact (Int.toNat_of_nonneg this).symm
theorem pAt2 : PureA Try.prog 93 (rowSpec .i64 1 SAt2) := by
  refine rowSpec_ok mo po (Nat.le_of_ble_eq_true (by kernel_rfl)) Try.func93 (code := bodyOf Try.f93) (by kernel_rfl) (fun nil l ks X A u e => ?_) (fun X A u c z e hA => ?_) (fun l ks X A u c e hA => ?_)
  · unfold SAt2 at e
    split at e
    · simp only [Option.some.injEq, Prod.mk.injEq] at e; obtain ⟨rfl, rfl⟩ := e
      exact ⟨rfl, rfl, by kernel_rfl⟩
    · cases e
  · unfold SAt2 at e
    split at e
    · rename_i x
      simp only [Option.some.injEq, Prod.mk.injEq] at e; obtain ⟨rfl, rfl⟩ := e
      refine TG_ret X8 mo _ (by kernel_rfl) (At0 c z x) fun g hg hc => ?_
      rw [List.mem_singleton] at hg; subst hg
      exact ⟨by simp, _, _, _, rfl, rfl⟩
    · cases e
  · unfold SAt2 at e
    split at e
    · rename_i x
      simp only [Option.some.injEq, Prod.mk.injEq] at e; obtain ⟨rfl, rfl⟩ := e
      have h1 := hA (l ≤ ks.length) (by simp)
      have h2 := hA (l ≤ 1000) (by simp)
      refine TG_ret X8 mo _ (by kernel_rfl) (At1 ks l c x) fun g hg hc => ?_
      simp only [List.mem_cons, List.not_mem_nil, or_false] at hg
      rcases hg with rfl | rfl
      · have hv : curveB l ks = true := hc _ (List.mem_singleton.2 rfl)
        have h3 := curveB_two hv
        refine ⟨?_, _, _, _, rfl, by rw [curveAt, if_pos hv]; rfl⟩
        have := clampN_le x
        (repeat' first | exact List.forall_mem_nil _ | refine List.forall_mem_cons.2 ⟨?_, ?_⟩) <;> first | exact clamp_eq x | assumption | exact h3.1 | exact h3.2
      · have hv : curveB l ks = false := hc _ (List.mem_singleton.2 rfl)
        refine ⟨?_, _, _, _, rfl, by rw [curveAt, hv]; rfl⟩
        (repeat' first | exact List.forall_mem_nil _ | refine List.forall_mem_cons.2 ⟨?_, ?_⟩) <;> assumption
    · cases e
noncomputable abbrev W9 : CtrW := addW 93 (readW (rowSpec .i64 1 SAt2)) W8
theorem W9_ok : CtrWOk Try.prog W9 := addW_ok (readW_ok pAt2) W8_ok
noncomputable abbrev cs9 : CallS := callX Try.prog W9 H0 1000 40
noncomputable abbrev X9 : CX Try.prog := CX.of mo po W9_ok H0 1000 40
end Go.Proofs.Ytadejpmecljjpaa
namespace Go.Proofs.Ytadejpmecljjpaa
open Go Go.Eng
def slQ (b : Bool) (pos l c z : Nat) : V := match b with | true => .slc none 0 c z | false => .slc (some (pos, 0)) l c 1
def srcV (nK nC : Bool) (X0 Y0 X1 Y1 : Int) (lP cP : Nat) (k r d v : Int) (lK cK zK lC cC zC : Nat) : V := .agg [.int .i64 X0, .int .i64 Y0, .int .i64 X1, .int .i64 Y1, .slc (some (2, 0)) lP cP 4, .int .i64 k, .int .i64 r, slQ nK 0 lK cK zK, .int .i64 d, .int .i64 v, slQ nC 1 lC cC zC]
def rH3 (nK nC : Bool) (ks cs px : List Int) : Tr O := rH [match nK with | true => none | false => some (.i64, ks), match nC with | true => none | false => some (.i64, cs), some (.u8, px)]
abbrev SF := Int → Int → Int → Int → Nat → List Int → Int → Int → Int → Int → Nat → List Int → Nat → List Int → List V → Option (List Prop × V)
def srcSpec (S : SF) : List V → Tr O → Option (List Prop × V)
  | .agg [.int .i64 X0, .int .i64 Y0, .int .i64 X1, .int .i64 Y1, P, .int .i64 k, .int .i64 r, sK, .int .i64 d, .int .i64 v, sC] :: X, h => match rowK .u8 4 h P with
    | some (some _, lP, px) => match rowK .i64 1 h sK with
      | some (_, lK, ks) => match rowK .i64 1 h sC with
        | some (_, lC, cs) => S X0 Y0 X1 Y1 lP px k r d v lK ks lC cs X
        | none => none
      | none => none
    | _ => none
  | _, _ => none
theorem src_rel {E E' : Env} {X0 Y0 X1 Y1 k r d v : Int} {p a b p' a' b' : V} {x : Value} (hp : ∀ y, vrel E p y → vrel E' p' y) (ha : ∀ y, vrel E a y → vrel E' a' y) (hb : ∀ y, vrel E b y → vrel E' b' y)
    (h : vrel E (.agg [.int .i64 X0, .int .i64 Y0, .int .i64 X1, .int .i64 Y1, p, .int .i64 k, .int .i64 r, a, .int .i64 d, .int .i64 v, b]) x) : vrel E' (.agg [.int .i64 X0, .int .i64 Y0, .int .i64 X1, .int .i64 Y1, p', .int .i64 k, .int .i64 r, a', .int .i64 d, .int .i64 v, b']) x := by
  obtain ⟨cs', h, rfl⟩ := h
  obtain ⟨y1, t1, r1, h, rfl⟩ := h
  obtain ⟨y2, t2, r2, h, rfl⟩ := h
  obtain ⟨y3, t3, r3, h, rfl⟩ := h
  obtain ⟨y4, t4, r4, h, rfl⟩ := h
  obtain ⟨y5, t5, r5, h, rfl⟩ := h
  obtain ⟨y6, t6, r6, h, rfl⟩ := h
  obtain ⟨y7, t7, r7, h, rfl⟩ := h
  obtain ⟨y8, t8, r8, h, rfl⟩ := h
  obtain ⟨y9, t9, r9, h, rfl⟩ := h
  obtain ⟨y10, t10, r10, h, rfl⟩ := h
  obtain ⟨y11, t11, r11, h, rfl⟩ := h
  exact ⟨_, ⟨y1, _, r1, ⟨y2, _, r2, ⟨y3, _, r3, ⟨y4, _, r4, ⟨y5, _, hp _ r5, ⟨y6, _, r6, ⟨y7, _, r7, ⟨y8, _, ha _ r8, ⟨y9, _, r9, ⟨y10, _, r10, ⟨y11, _, hb _ r11, h, rfl⟩, rfl⟩, rfl⟩, rfl⟩, rfl⟩, rfl⟩, rfl⟩, rfl⟩, rfl⟩, rfl⟩, rfl⟩, rfl⟩
theorem srcSpec_ok {f : FuncId} {fn : Func} {code : Code} (hlt : f < Try.prog.funcs.size) (hf : Try.prog.funcs[f]? = some fn) (hb : fn.body = some code) {S : SF}
    (hX : ∀ X0 Y0 X1 Y1 lP px k r d v lK ks lC cs X A u, S X0 Y0 X1 Y1 lP px k r d v lK ks lC cs X = some (A, u) → u.free = true ∧ V.frees X = true ∧ (Nat.ble (X.length + 1) fn.ntmps && Nat.blt fn.ntmps top) = true)
    (run : ∀ X0 Y0 X1 Y1 lP px k r d v lK ks lC cs X A u (nK nC : Bool) cP cK zK cC zC, S X0 Y0 X1 Y1 lP px k r d v (ln nK lK) (rw' nK ks) (ln nC lC) (rw' nC cs) X = some (A, u) → (∀ a ∈ A, a) →
      TG Try.prog 3 fn.ntmps code (startSt (srcV nK nC X0 Y0 X1 Y1 lP cP k r d v lK cK zK lC cC zC :: X) (rH3 nK nC ks cs px) 3) (RetG Try.prog 3 fn fun a _ _ => a = u)) : PureA Try.prog f (srcSpec S) := by
  refine ⟨hlt, fun args h A u e => ?_⟩
  unfold srcSpec at e
  split at e
  case h_2 => cases e
  rename_i X0 Y0 X1 Y1 P k r sK' d v sC' X
  split at e
  case h_2 => cases e
  rename_i aP lP px hP
  split at e
  case h_2 => cases e
  rename_i aK lK ks hK
  split at e
  case h_2 => cases e
  rename_i aC lC cs hC
  obtain ⟨hu, hXf, hlen⟩ := hX _ _ _ _ _ _ _ _ _ _ _ _ _ _ _ _ _ e
  refine ⟨hu, fun hA E n w args' ra g hd hc => ?_⟩
  obtain ⟨y, ys, r0, rs, rfl⟩ := ra
  rcases rowK_cases hP with ⟨_, _, _, q, _, _⟩ | ⟨mP, oP, cP, fP, rfl, qP, hmP, hdP⟩
  · cases q
  rcases rowK_cases hK with ⟨cK, zK, rfl, rfl, rfl, rfl⟩ | ⟨mK, oK, cK, fK, rfl, rfl, hmK, hdK⟩ <;> rcases rowK_cases hC with ⟨cC, zC, rfl, rfl, rfl, rfl⟩ | ⟨mC, oC, cC, fC, rfl, rfl, hmC, hdC⟩
  · obtain ⟨g2, d2, n2⟩ := rows_ok g [none, none, some (mP, oP)] [none, none, some (.u8, px)] (Nat.le_of_ble_eq_true rfl) (by
      intro j k' ks' hj
      match j, hj with
      | 0, hj => cases hj
      | 1, hj => cases hj
      | 2, hj => cases hj; exact ⟨mP, oP, fP, rfl, hmP, hdP⟩
      | j + 3, hj => simp at hj)
    exact read_calls mo po hf hb (by exact hlen) (run X0 Y0 X1 Y1 lP px k r d v 0 [] 0 [] X A u true true cP cK zK cC zC e hA) (E := E.rows [none, none, some (mP, oP)]) g2 d2 n2 ⟨y, ys, src_rel (fun _ q => rows_slc rfl q) (fun _ q => nil_any q) (fun _ q => nil_any q) r0, frees_noE hXf rs, rfl⟩
  · obtain ⟨g2, d2, n2⟩ := rows_ok g [none, some (mC, oC), some (mP, oP)] [none, some (.i64, cs), some (.u8, px)] (Nat.le_of_ble_eq_true rfl) (by
      intro j k' ks' hj
      match j, hj with
      | 0, hj => cases hj
      | 1, hj => cases hj; exact ⟨mC, oC, fC, rfl, hmC, hdC⟩
      | 2, hj => cases hj; exact ⟨mP, oP, fP, rfl, hmP, hdP⟩
      | j + 3, hj => simp at hj)
    exact read_calls mo po hf hb (by exact hlen) (run X0 Y0 X1 Y1 lP px k r d v 0 [] lC cs X A u true false cP cK zK cC 0 e hA) (E := E.rows [none, some (mC, oC), some (mP, oP)]) g2 d2 n2 ⟨y, ys, src_rel (fun _ q => rows_slc rfl q) (fun _ q => nil_any q) (fun _ q => rows_slc rfl q) r0, frees_noE hXf rs, rfl⟩
  · obtain ⟨g2, d2, n2⟩ := rows_ok g [some (mK, oK), none, some (mP, oP)] [some (.i64, ks), none, some (.u8, px)] (Nat.le_of_ble_eq_true rfl) (by
      intro j k' ks' hj
      match j, hj with
      | 0, hj => cases hj; exact ⟨mK, oK, fK, rfl, hmK, hdK⟩
      | 1, hj => cases hj
      | 2, hj => cases hj; exact ⟨mP, oP, fP, rfl, hmP, hdP⟩
      | j + 3, hj => simp at hj)
    exact read_calls mo po hf hb (by exact hlen) (run X0 Y0 X1 Y1 lP px k r d v lK ks 0 [] X A u false true cP cK 0 cC zC e hA) (E := E.rows [some (mK, oK), none, some (mP, oP)]) g2 d2 n2 ⟨y, ys, src_rel (fun _ q => rows_slc rfl q) (fun _ q => rows_slc rfl q) (fun _ q => nil_any q) r0, frees_noE hXf rs, rfl⟩
  · obtain ⟨g2, d2, n2⟩ := rows_ok g [some (mK, oK), some (mC, oC), some (mP, oP)] [some (.i64, ks), some (.i64, cs), some (.u8, px)] (Nat.le_of_ble_eq_true rfl) (by
      intro j k' ks' hj
      match j, hj with
      | 0, hj => cases hj; exact ⟨mK, oK, fK, rfl, hmK, hdK⟩
      | 1, hj => cases hj; exact ⟨mC, oC, fC, rfl, hmC, hdC⟩
      | 2, hj => cases hj; exact ⟨mP, oP, fP, rfl, hmP, hdP⟩
      | j + 3, hj => simp at hj)
    exact read_calls mo po hf hb (by exact hlen) (run X0 Y0 X1 Y1 lP px k r d v lK ks lC cs X A u false false cP cK 0 cC 0 e hA) (E := E.rows [some (mK, oK), some (mC, oC), some (mP, oP)]) g2 d2 n2 ⟨y, ys, src_rel (fun _ q => rows_slc rfl q) (fun _ q => rows_slc rfl q) (fun _ q => rows_slc rfl q) r0, frees_noE hXf rs, rfl⟩
def idxE (X0 Y0 X1 x y : Int) : Int := w64 (w64 (w64 (w64 (y - Y0) * w64 (X1 - X0)) + x) - X0)
def pq (px : List Int) (i : Int) (j : Nat) : Int := px.getD (0 + i.toNat * 4 + j) 0
def atA (lP : Nat) (px : List Int) (i : Int) : List Prop := [0 ≤ i ∧ i < Int.ofNat lP, 0 + i.toNat * 4 + 4 ≤ px.length]
def pix4 (px : List Int) (i : Int) : V := .agg [.int .u8 (pq px i 0), .int .u8 (pq px i 1), .int .u8 (pq px i 2), .int .u8 (pq px i 3)]
theorem at_run (nK nC : Bool) (X0 Y0 X1 Y1 x y : Int) (lP cP : Nat) (k r d v : Int) (lK cK zK lC cC zC : Nat) (ks cs px : List Int) : ∃ h n, RunIs Try.prog cs9 [] 1000 3 Try.f95 [] (bodyOf Try.f95) (startSt [srcV nK nC X0 Y0 X1 Y1 lP cP k r d v lK cK zK lC cC zC, .int .i64 x, .int .i64 y] (rH3 nK nC ks cs px) 3) []
    [([], atA lP px (idxE X0 Y0 X1 x y), .ret (pix4 px (idxE X0 Y0 X1 x y)) h n)] := by
  refine ⟨rH3 nK nC ks cs px, 3, ?_⟩
  unfold RunIs; cases nK <;> cases nC <;> kernel_rfl
def SAtP : SF := fun X0 Y0 X1 _ lP px _ _ _ _ _ _ _ _ X => match X with
  | [.int .i64 x, .int .i64 y] => some (atA lP px (idxE X0 Y0 X1 x y), pix4 px (idxE X0 Y0 X1 x y))
  | _ => none
theorem pAtP : PureA Try.prog 95 (srcSpec SAtP) := by
  refine srcSpec_ok (Nat.le_of_ble_eq_true (by kernel_rfl)) Try.func95 (code := bodyOf Try.f95) (by kernel_rfl) (fun X0 Y0 X1 Y1 lP px k r d v lK ks lC cs X A u e => ?_) (fun X0 Y0 X1 Y1 lP px k r d v lK ks lC cs X A u nK nC cP cK zK cC zC e hA => ?_)
  · unfold SAtP at e
    split at e
    · simp only [Option.some.injEq, Prod.mk.injEq] at e; obtain ⟨rfl, rfl⟩ := e
      exact ⟨rfl, rfl, by kernel_rfl⟩
    · cases e
  · unfold SAtP at e
    split at e
    · rename_i x y
      simp only [Option.some.injEq, Prod.mk.injEq] at e; obtain ⟨rfl, rfl⟩ := e
      obtain ⟨h, n, hr⟩ := at_run nK nC X0 Y0 X1 Y1 x y lP cP k r d v lK cK zK lC cC zC ks cs px
      refine TG_ret X9 mo _ (by kernel_rfl) hr fun g hg _ => ?_
      rw [List.mem_singleton] at hg; subst hg
      exact ⟨hA, _, _, _, rfl, rfl⟩
    · cases e
noncomputable abbrev WA : CtrW := addW 95 (readW (srcSpec SAtP)) W9
theorem WA_ok : CtrWOk Try.prog WA := addW_ok (readW_ok pAtP) W9_ok
noncomputable abbrev csA : CallS := callX Try.prog WA H0 1000 40
noncomputable abbrev XA : CX Try.prog := CX.of mo po WA_ok H0 1000 40
end Go.Proofs.Ytadejpmecljjpaa
namespace Go.Proofs.Ytadejpmecljjpaa
open Go Go.Eng
abbrev u8w (x : Int) : Int := IntKind.u8.wrap x
def ix4 (j : Int) : Prop := 0 ≤ j ∧ j < 4
def six : List Prop := [ix4 0, ix4 0, ix4 1, ix4 1, ix4 2, ix4 2]
theorem six_ok : ∀ a ∈ six, a := by
  simp only [six, List.mem_cons, List.not_mem_nil, or_false]
  rintro a (rfl | rfl | rfl | rfl | rfl | rfl) <;> exact ⟨by omega, by omega⟩
def mkP (a b c e : Int) : V := .agg [.int .u8 a, .int .u8 b, .int .u8 c, .int .u8 e]
def invC (p : Int) : Int := u8w (w64 (255 - w64 p))
def invV (px : List Int) (i : Int) : V := mkP (invC (pq px i 0)) (invC (pq px i 1)) (invC (pq px i 2)) (u8w (w64 (pq px i 3)))
def tonC (cs : List Int) (l : Nat) (p : Int) : Int := u8w (roundI (curveAt cs l (w64 (257 * w64 p))) 257)
def tonV (cs : List Int) (l : Nat) (px : List Int) (i : Int) : V := mkP (tonC cs l (pq px i 0)) (tonC cs l (pq px i 1)) (tonC cs l (pq px i 2)) (u8w (w64 (pq px i 3)))
def thrB (px : List Int) (i v : Int) : Bool := decide (w64 (w64 (w64 (pq px i 0) + w64 (pq px i 1)) + w64 (pq px i 2)) ≥ w64 (3 * v))
def thrV (px : List Int) (i v : Int) : V := if thrB px i v = true then mkP 255 255 255 (u8w (w64 (pq px i 3))) else mkP 0 0 0 (u8w (w64 (pq px i 3)))
def offI (X0 Y0 X1 x y r v : Int) : Int := idxE X0 Y0 X1 (w64 (x - r)) (w64 (y - v))
def lens (l : Nat) (ks : List Int) : List Prop := [l ≤ ks.length, l ≤ 1000]
def tonA (l : Nat) (ks : List Int) : List Prop := ix4 0 :: (lens l ks ++ (ix4 0 :: ix4 1 :: (lens l ks ++ (ix4 1 :: ix4 2 :: (lens l ks ++ [ix4 2])))))
theorem inv_run (nK nC : Bool) (X0 Y0 X1 Y1 x y : Int) (lP cP : Nat) (k r d v : Int) (lK cK zK lC cC zC : Nat) (ks cs px : List Int) : ∃ h n, RunIs Try.prog csA [] 1000 3 Try.f70 [] (bodyOf Try.f70) (startSt [srcV nK nC X0 Y0 X1 Y1 lP cP k r d v lK cK zK lC cC zC, .int .i64 x, .int .i64 y] (rH3 nK nC ks cs px) 3) []
    [([], atA lP px (idxE X0 Y0 X1 x y) ++ six, .ret (invV px (idxE X0 Y0 X1 x y)) h n)] := by
  refine ⟨rH3 nK nC ks cs px, 3, ?_⟩
  unfold RunIs; cases nK <;> cases nC <;> kernel_rfl
theorem ton_run (nK nC : Bool) (X0 Y0 X1 Y1 x y : Int) (lP cP : Nat) (k r d v : Int) (lK cK zK lC cC zC : Nat) (ks cs px : List Int) : ∃ h n, RunIs Try.prog csA [] 1000 3 Try.f69 [] (bodyOf Try.f69) (startSt [srcV nK nC X0 Y0 X1 Y1 lP cP k r d v lK cK zK lC cC zC, .int .i64 x, .int .i64 y] (rH3 nK nC ks cs px) 3) []
    [([], atA lP px (idxE X0 Y0 X1 x y) ++ tonA (ln nC lC) (rw' nC cs), .ret (tonV (rw' nC cs) (ln nC lC) px (idxE X0 Y0 X1 x y)) h n)] := by
  refine ⟨rH3 nK nC ks cs px, 3, ?_⟩
  unfold RunIs; cases nK <;> cases nC <;> kernel_rfl
theorem thr_run (nK nC : Bool) (X0 Y0 X1 Y1 x y : Int) (lP cP : Nat) (k r d v : Int) (lK cK zK lC cC zC : Nat) (ks cs px : List Int) : ∃ h n, RunIs Try.prog csA [(28, .split)] 1000 3 Try.f71 [] (bodyOf Try.f71) (startSt [srcV nK nC X0 Y0 X1 Y1 lP cP k r d v lK cK zK lC cC zC, .int .i64 x, .int .i64 y] (rH3 nK nC ks cs px) 3) []
    [([(thrB px (idxE X0 Y0 X1 x y) v, true)], atA lP px (idxE X0 Y0 X1 x y) ++ (atA lP px (idxE X0 Y0 X1 x y) ++ six), .ret (mkP 255 255 255 (u8w (w64 (pq px (idxE X0 Y0 X1 x y) 3)))) h n), ([(thrB px (idxE X0 Y0 X1 x y) v, false)], atA lP px (idxE X0 Y0 X1 x y) ++ (atA lP px (idxE X0 Y0 X1 x y) ++ six), .ret (mkP 0 0 0 (u8w (w64 (pq px (idxE X0 Y0 X1 x y) 3)))) h n)] := by
  refine ⟨rH3 nK nC ks cs px, 3, ?_⟩
  unfold RunIs; cases nK <;> cases nC <;> kernel_rfl
theorem off_run (nK nC : Bool) (X0 Y0 X1 Y1 x y : Int) (lP cP : Nat) (k r d v : Int) (lK cK zK lC cC zC : Nat) (ks cs px : List Int) : ∃ h n, RunIs Try.prog csA [] 1000 3 Try.f72 [] (bodyOf Try.f72) (startSt [srcV nK nC X0 Y0 X1 Y1 lP cP k r d v lK cK zK lC cC zC, .int .i64 x, .int .i64 y] (rH3 nK nC ks cs px) 3) []
    [([], atA lP px (offI X0 Y0 X1 x y r v), .ret (pix4 px (offI X0 Y0 X1 x y r v)) h n)] := by
  refine ⟨rH3 nK nC ks cs px, 3, ?_⟩
  unfold RunIs; cases nK <;> cases nC <;> kernel_rfl
def SInv : SF := fun X0 Y0 X1 _ lP px _ r _ v _ _ lC cs X => match X with
  | [.int .i64 x, .int .i64 y] => some (atA lP px (idxE X0 Y0 X1 x y), invV px (idxE X0 Y0 X1 x y))
  | _ => none
theorem pInv : PureA Try.prog 70 (srcSpec SInv) := by
  refine srcSpec_ok (Nat.le_of_ble_eq_true (by kernel_rfl)) Try.func70 (code := bodyOf Try.f70) (by kernel_rfl) (fun X0 Y0 X1 Y1 lP px k r d v lK ks lC cs X A u e => ?_) (fun X0 Y0 X1 Y1 lP px k r d v lK ks lC cs X A u nK nC cP cK zK cC zC e hA => ?_)
  · unfold SInv at e
    split at e
    · simp only [Option.some.injEq, Prod.mk.injEq] at e; obtain ⟨rfl, rfl⟩ := e
      exact ⟨rfl, rfl, by kernel_rfl⟩
    · cases e
  · unfold SInv at e
    split at e
    · rename_i x y
      simp only [Option.some.injEq, Prod.mk.injEq] at e; obtain ⟨rfl, rfl⟩ := e
      obtain ⟨h, n, hr⟩ := inv_run nK nC X0 Y0 X1 Y1 x y lP cP k r d v lK cK zK lC cC zC ks cs px
      refine TG_ret XA mo _ (by kernel_rfl) hr fun g hg hc => ?_
      rw [List.mem_singleton] at hg; subst hg
      refine ⟨fun a ha => ?_, _, _, _, rfl, rfl⟩
      rcases List.mem_append.1 ha with ha | ha
      · exact hA a ha
      · exact six_ok a ha
    · cases e
def STon : SF := fun X0 Y0 X1 _ lP px _ r _ v _ _ lC cs X => match X with
  | [.int .i64 x, .int .i64 y] => some (atA lP px (idxE X0 Y0 X1 x y) ++ lens lC cs, tonV cs lC px (idxE X0 Y0 X1 x y))
  | _ => none
theorem pTon : PureA Try.prog 69 (srcSpec STon) := by
  refine srcSpec_ok (Nat.le_of_ble_eq_true (by kernel_rfl)) Try.func69 (code := bodyOf Try.f69) (by kernel_rfl) (fun X0 Y0 X1 Y1 lP px k r d v lK ks lC cs X A u e => ?_) (fun X0 Y0 X1 Y1 lP px k r d v lK ks lC cs X A u nK nC cP cK zK cC zC e hA => ?_)
  · unfold STon at e
    split at e
    · simp only [Option.some.injEq, Prod.mk.injEq] at e; obtain ⟨rfl, rfl⟩ := e
      exact ⟨rfl, rfl, by kernel_rfl⟩
    · cases e
  · unfold STon at e
    split at e
    · rename_i x y
      simp only [Option.some.injEq, Prod.mk.injEq] at e; obtain ⟨rfl, rfl⟩ := e
      obtain ⟨h, n, hr⟩ := ton_run nK nC X0 Y0 X1 Y1 x y lP cP k r d v lK cK zK lC cC zC ks cs px
      refine TG_ret XA mo _ (by kernel_rfl) hr fun g hg hc => ?_
      rw [List.mem_singleton] at hg; subst hg
      refine ⟨fun a ha => ?_, _, _, _, rfl, rfl⟩
      rcases List.mem_append.1 ha with ha | ha
      · exact hA a (List.mem_append_left _ ha)
      · simp only [tonA, lens, List.mem_cons, List.mem_append, List.not_mem_nil, or_false] at ha
        have h1 := hA (ln nC lC ≤ (rw' nC cs).length) (List.mem_append_right _ (by simp [lens]))
        have h2 := hA (ln nC lC ≤ 1000) (List.mem_append_right _ (by simp [lens]))
        rcases ha with rfl | (rfl | rfl) | rfl | rfl | (rfl | rfl) | rfl | rfl | (rfl | rfl) | rfl <;> first | exact h1 | exact h2 | exact ⟨by omega, by omega⟩
    · cases e
def SThr : SF := fun X0 Y0 X1 _ lP px _ r _ v _ _ lC cs X => match X with
  | [.int .i64 x, .int .i64 y] => some (atA lP px (idxE X0 Y0 X1 x y), thrV px (idxE X0 Y0 X1 x y) v)
  | _ => none
theorem pThr : PureA Try.prog 71 (srcSpec SThr) := by
  refine srcSpec_ok (Nat.le_of_ble_eq_true (by kernel_rfl)) Try.func71 (code := bodyOf Try.f71) (by kernel_rfl) (fun X0 Y0 X1 Y1 lP px k r d v lK ks lC cs X A u e => ?_) (fun X0 Y0 X1 Y1 lP px k r d v lK ks lC cs X A u nK nC cP cK zK cC zC e hA => ?_)
  · unfold SThr at e
    split at e
    · simp only [Option.some.injEq, Prod.mk.injEq] at e; obtain ⟨rfl, rfl⟩ := e
      exact ⟨by unfold thrV; split <;> rfl, rfl, by kernel_rfl⟩
    · cases e
  · unfold SThr at e
    split at e
    · rename_i x y
      simp only [Option.some.injEq, Prod.mk.injEq] at e; obtain ⟨rfl, rfl⟩ := e
      obtain ⟨h, n, hr⟩ := thr_run nK nC X0 Y0 X1 Y1 x y lP cP k r d v lK cK zK lC cC zC ks cs px
      refine TG_ret XA mo _ (by kernel_rfl) hr fun g hg hc => ?_
      have hAll : ∀ a ∈ atA lP px (idxE X0 Y0 X1 x y) ++ (atA lP px (idxE X0 Y0 X1 x y) ++ six), a := by
        intro a ha
        rcases List.mem_append.1 ha with ha | ha
        · exact hA a ha
        · rcases List.mem_append.1 ha with ha | ha
          · exact hA a ha
          · exact six_ok a ha
      simp only [List.mem_cons, List.not_mem_nil, or_false] at hg
      rcases hg with rfl | rfl
      · have hb : thrB px (idxE X0 Y0 X1 x y) v = true := hc _ (List.mem_singleton.2 rfl)
        exact ⟨hAll, _, _, _, rfl, by rw [thrV, if_pos hb]⟩
      · have hb : thrB px (idxE X0 Y0 X1 x y) v = false := hc _ (List.mem_singleton.2 rfl)
        exact ⟨hAll, _, _, _, rfl, by rw [thrV, hb]; rfl⟩
    · cases e
def SOff : SF := fun X0 Y0 X1 _ lP px _ r _ v _ _ lC cs X => match X with
  | [.int .i64 x, .int .i64 y] => some (atA lP px (offI X0 Y0 X1 x y r v), pix4 px (offI X0 Y0 X1 x y r v))
  | _ => none
theorem pOff : PureA Try.prog 72 (srcSpec SOff) := by
  refine srcSpec_ok (Nat.le_of_ble_eq_true (by kernel_rfl)) Try.func72 (code := bodyOf Try.f72) (by kernel_rfl) (fun X0 Y0 X1 Y1 lP px k r d v lK ks lC cs X A u e => ?_) (fun X0 Y0 X1 Y1 lP px k r d v lK ks lC cs X A u nK nC cP cK zK cC zC e hA => ?_)
  · unfold SOff at e
    split at e
    · simp only [Option.some.injEq, Prod.mk.injEq] at e; obtain ⟨rfl, rfl⟩ := e
      exact ⟨rfl, rfl, by kernel_rfl⟩
    · cases e
  · unfold SOff at e
    split at e
    · rename_i x y
      simp only [Option.some.injEq, Prod.mk.injEq] at e; obtain ⟨rfl, rfl⟩ := e
      obtain ⟨h, n, hr⟩ := off_run nK nC X0 Y0 X1 Y1 x y lP cP k r d v lK cK zK lC cC zC ks cs px
      refine TG_ret XA mo _ (by kernel_rfl) hr fun g hg hc => ?_
      rw [List.mem_singleton] at hg; subst hg
      exact ⟨hA, _, _, _, rfl, rfl⟩
    · cases e
noncomputable abbrev WB : CtrW := addW 70 (readW (srcSpec SInv)) (addW 69 (readW (srcSpec STon)) (addW 71 (readW (srcSpec SThr)) (addW 72 (readW (srcSpec SOff)) WA)))
theorem WB_ok : CtrWOk Try.prog WB := addW_ok (readW_ok pInv) (addW_ok (readW_ok pTon) (addW_ok (readW_ok pThr) (addW_ok (readW_ok pOff) WA_ok)))
end Go.Proofs.Ytadejpmecljjpaa
