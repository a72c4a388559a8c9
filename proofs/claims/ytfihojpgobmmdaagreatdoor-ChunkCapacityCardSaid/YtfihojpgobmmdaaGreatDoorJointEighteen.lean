/- The Chunk laws: octet.Reader: Var: pieces. No conditions. -/
import Derived.Test.YtfihojpgobmmdaaGreatDoorJointEight
import Derived.Test.YtfihojpgobmmdaaGreatDoorJointSeventeen
import Derived.Test.YtfihojpgobmmdaaGreatDoorJointFourteen
import Derived.Test.YtfihojpgobmmdaaGreatDoorJointFifteen
import Derived.Test.YtfihojpgobmmdaaGreatDoorJointTwelve
import Derived.Test.YtfihojpgobmmdaaGreatDoorJointSixteen
import Derived.Shelf.SlicesG.Clone
set_option linter.unusedVariables false
set_option linter.unusedSimpArgs false
set_option linter.unusedSectionVars false
namespace Go.Proofs.YtfihojpgobmmdaaGreatDoor
open Go Go.Eng
noncomputable abbrev cdRV : Code := bodyOf Tryz.f110
noncomputable abbrev tlRV : Code := tailN 3 cdRV
noncomputable abbrev lpRV : Code := seqL tlRV
noncomputable abbrev bdRV : Code := inner (inner (seqR lpRV))
abbrev rdP : V := .ptr (some (3, 0))
abbrev rdC (s : List UInt8) (a : Nat) (f : Bool) : List V := [.str s, .int .i64 (Int.ofNat a), .bool f]
def uS (u : Int) (b : UInt8) (i : Nat) : Int := IntKind.u64.wrap (Int.ofNat (BitVec.ofInt 64 u ||| BitVec.ofInt 64 (IntKind.u64.wrap (IntKind.u64.wrap (IntKind.u8.wrap (Int.ofNat (BitVec.ofInt 8 (Int.ofNat b.toNat) &&& BitVec.ofInt 8 (127 : Int)).toNat)) * (2 : Int) ^ min (Int.ofNat (7 * i)).toNat 64))).toNat)
def sRV (s : List UInt8) (a : Nat) (u : Int) (m i : Nat) : St := stG [(0, rdP), (3, .int .u64 u), (16, .int .i64 (Int.ofNat m)), (17, .int .i64 (Int.ofNat i))] (hP (rdC s a false)) 4
theorem rv1_t (s : List UInt8) (a : Int) : ∃ L, RunIs Tryz.prog (csQ []) [] 1000 4 Tryz.f110 [] (cdRV) (startSt [rdP] (hP [.str s, .int .i64 a, .bool true]) 4) L
    [([],
      [],
      .ret (.int .i64 0) (hL [(3, .cells [.str s, .int .i64 a, .bool true])]) 4)]
  := RunIs.of (by kernel_rfl) (by kernel_rfl) (by kernel_rfl)
theorem rv1_h (s : List UInt8) (a : Nat) : ∃ L, RunIs Tryz.prog (csQ []) [] 1000 4 Tryz.f110 [0, 3] (headN 3 cdRV) (startSt [rdP] (hP (rdC s a false)) 4) L
    [([],
      [],
      .to .normal (stG [(0, .ptr (some (3, 0))), (3, .int .u64 0)] (hL [(3, .cells [.str s, .int .i64 (Int.ofNat a), .bool false])]) 4))]
  := RunIs.of (by kernel_rfl) (by kernel_rfl) (by kernel_rfl)
theorem rv1_i (s : List UInt8) (a m : Nat) : ∃ L, RunIs Tryz.prog (csQ []) [(16, .give (.int .i64 (Int.ofNat m))), (17, .give (.int .i64 (Int.ofNat 0)))] 1000 4 Tryz.f110 [0, 3, 16, 17] (seqL lpRV) (stG [(0, rdP), (3, .int .u64 0)] (hP (rdC s a false)) 4) L
    [([],
      [(V.int IntKind.i64 (if IntKind.i64.wrap ((Int.ofNat s.length) - Int.ofNat a) < (10 : Int) then IntKind.i64.wrap ((Int.ofNat s.length) - Int.ofNat a) else (10 : Int)) = V.int IntKind.i64 (Int.ofNat m)), (V.int IntKind.i64 (0 : Int) = V.int IntKind.i64 (0 : Int))],
      .to .normal (stG [(0, .ptr (some (3, 0))), (3, .int .u64 0), (16, .int .i64 (Int.ofNat m)), (17, .int .i64 0)] (hL [(3, .cells [.str s, .int .i64 (Int.ofNat a), .bool false])]) 4))]
  := RunIs.of (by kernel_rfl) (by kernel_rfl) (by kernel_rfl)
abbrev rv1_bA1 (i : Nat) (u : Int) (b : UInt8) : Prop := V.int IntKind.u64 (IntKind.u64.wrap (Int.ofNat (BitVec.ofInt 64 u ||| BitVec.ofInt 64 (IntKind.u64.wrap (IntKind.u64.wrap (IntKind.u8.wrap (Int.ofNat (BitVec.ofInt 8 (Int.ofNat b.toNat) &&& BitVec.ofInt 8 (127 : Int)).toNat)) * (2 : Int) ^ min (7 * i) 64))).toNat)) = V.int IntKind.u64 (uS u b i)
abbrev rv1_bA2 (s : List UInt8) (a i : Nat) (b : UInt8) : Prop := V.int IntKind.u8 (Int.ofNat (s.getD (a + i) (0 : UInt8)).toNat) = V.int IntKind.u8 (Int.ofNat b.toNat)
theorem rv1_b (s : List UInt8) (a m i : Nat) (u : Int) (b : UInt8) : ∃ L, RunIs Tryz.prog (csQ []) [(18, .split), (29, .give (.int .i64 (Int.ofNat (a + i)))), (30, .give (.int .u8 (Int.ofNat b.toNat))), (36, .give (.int .i64 (Int.ofNat (7 * i)))), (38, .give (.int .u64 (uS u b i))), (40, .split), (43, .split), (47, .split), (50, .split), (54, .split), (61, .give (.int .i64 (Int.ofNat (a + (i + 1))))), (66, .give (.int .i64 (Int.ofNat (i + 1))))] 1000 4 Tryz.f110 [0, 3, 16, 17] (bdRV) (sRV s a u m i) L
    [([((decide (Int.ofNat i < Int.ofNat m)), true), ((decide (Int.ofNat b.toNat ≥ (128 : Int))), true)],
      [ieq (Int.ofNat a + Int.ofNat i) (a + i), ((0 : Int) ≤ Int.ofNat (a + i) ∧ (a + i) < s.length), rv1_bA2 s a i b, ieq ((7 : Int) * Int.ofNat i) (7 * i), rv1_bA1 i u b, ieq (Int.ofNat i + (1 : Int)) (i + 1)],
      .to .normal (stG [(0, .ptr (some (3, 0))), (3, .int .u64 (uS u b i)), (16, .int .i64 (Int.ofNat m)), (17, .int .i64 (Int.ofNat (i + 1)))] (hL [(3, .cells [.str s, .int .i64 (Int.ofNat a), .bool false])]) 4)),
    ([((decide (Int.ofNat i < Int.ofNat m)), true), ((decide (Int.ofNat b.toNat ≥ (128 : Int))), false), ((decide (Int.ofNat i > (0 : Int))), true), ((Int.ofNat b.toNat == (0 : Int)), true), (true, true)],
      [ieq (Int.ofNat a + Int.ofNat i) (a + i), ((0 : Int) ≤ Int.ofNat (a + i) ∧ (a + i) < s.length), rv1_bA2 s a i b, ieq ((7 : Int) * Int.ofNat i) (7 * i), rv1_bA1 i u b],
      .to (.exit 0) (stG [(0, .ptr (some (3, 0))), (3, .int .u64 (uS u b i)), (16, .int .i64 (Int.ofNat m)), (17, .int .i64 (Int.ofNat i))] (hL [(3, .cells [.str s, .int .i64 (Int.ofNat a), .bool false])]) 4)),
    ([((decide (Int.ofNat i < Int.ofNat m)), true), ((decide (Int.ofNat b.toNat ≥ (128 : Int))), false), ((decide (Int.ofNat i > (0 : Int))), true), ((Int.ofNat b.toNat == (0 : Int)), true), (true, false)],
      [ieq (Int.ofNat a + Int.ofNat i) (a + i), ((0 : Int) ≤ Int.ofNat (a + i) ∧ (a + i) < s.length), rv1_bA2 s a i b, ieq ((7 : Int) * Int.ofNat i) (7 * i), rv1_bA1 i u b, ieq (Int.ofNat a + IntKind.i64.wrap (Int.ofNat i + (1 : Int))) (a + (i + 1))],
      .ret (.int .i64 (IntKind.i64.wrap (uS u b i))) (hL [(3, .cells [.str s, .int .i64 (Int.ofNat (a + (i + 1))), .bool false])]) 4),
    ([((decide (Int.ofNat i < Int.ofNat m)), true), ((decide (Int.ofNat b.toNat ≥ (128 : Int))), false), ((decide (Int.ofNat i > (0 : Int))), true), ((Int.ofNat b.toNat == (0 : Int)), false), ((Int.ofNat i == (9 : Int)), true), ((decide (Int.ofNat b.toNat > (1 : Int))), true)],
      [ieq (Int.ofNat a + Int.ofNat i) (a + i), ((0 : Int) ≤ Int.ofNat (a + i) ∧ (a + i) < s.length), rv1_bA2 s a i b, ieq ((7 : Int) * Int.ofNat i) (7 * i), rv1_bA1 i u b],
      .to (.exit 0) (stG [(0, .ptr (some (3, 0))), (3, .int .u64 (uS u b i)), (16, .int .i64 (Int.ofNat m)), (17, .int .i64 (Int.ofNat i))] (hL [(3, .cells [.str s, .int .i64 (Int.ofNat a), .bool false])]) 4)),
    ([((decide (Int.ofNat i < Int.ofNat m)), true), ((decide (Int.ofNat b.toNat ≥ (128 : Int))), false), ((decide (Int.ofNat i > (0 : Int))), true), ((Int.ofNat b.toNat == (0 : Int)), false), ((Int.ofNat i == (9 : Int)), true), ((decide (Int.ofNat b.toNat > (1 : Int))), false)],
      [ieq (Int.ofNat a + Int.ofNat i) (a + i), ((0 : Int) ≤ Int.ofNat (a + i) ∧ (a + i) < s.length), rv1_bA2 s a i b, ieq ((7 : Int) * Int.ofNat i) (7 * i), rv1_bA1 i u b, ieq (Int.ofNat a + IntKind.i64.wrap (Int.ofNat i + (1 : Int))) (a + (i + 1))],
      .ret (.int .i64 (IntKind.i64.wrap (uS u b i))) (hL [(3, .cells [.str s, .int .i64 (Int.ofNat (a + (i + 1))), .bool false])]) 4),
    ([((decide (Int.ofNat i < Int.ofNat m)), true), ((decide (Int.ofNat b.toNat ≥ (128 : Int))), false), ((decide (Int.ofNat i > (0 : Int))), true), ((Int.ofNat b.toNat == (0 : Int)), false), ((Int.ofNat i == (9 : Int)), false), (false, true)],
      [ieq (Int.ofNat a + Int.ofNat i) (a + i), ((0 : Int) ≤ Int.ofNat (a + i) ∧ (a + i) < s.length), rv1_bA2 s a i b, ieq ((7 : Int) * Int.ofNat i) (7 * i), rv1_bA1 i u b],
      .to (.exit 0) (stG [(0, .ptr (some (3, 0))), (3, .int .u64 (uS u b i)), (16, .int .i64 (Int.ofNat m)), (17, .int .i64 (Int.ofNat i))] (hL [(3, .cells [.str s, .int .i64 (Int.ofNat a), .bool false])]) 4)),
    ([((decide (Int.ofNat i < Int.ofNat m)), true), ((decide (Int.ofNat b.toNat ≥ (128 : Int))), false), ((decide (Int.ofNat i > (0 : Int))), true), ((Int.ofNat b.toNat == (0 : Int)), false), ((Int.ofNat i == (9 : Int)), false), (false, false)],
      [ieq (Int.ofNat a + Int.ofNat i) (a + i), ((0 : Int) ≤ Int.ofNat (a + i) ∧ (a + i) < s.length), rv1_bA2 s a i b, ieq ((7 : Int) * Int.ofNat i) (7 * i), rv1_bA1 i u b, ieq (Int.ofNat a + IntKind.i64.wrap (Int.ofNat i + (1 : Int))) (a + (i + 1))],
      .ret (.int .i64 (IntKind.i64.wrap (uS u b i))) (hL [(3, .cells [.str s, .int .i64 (Int.ofNat (a + (i + 1))), .bool false])]) 4),
    ([((decide (Int.ofNat i < Int.ofNat m)), true), ((decide (Int.ofNat b.toNat ≥ (128 : Int))), false), ((decide (Int.ofNat i > (0 : Int))), false), (false, true), (true, true)],
      [ieq (Int.ofNat a + Int.ofNat i) (a + i), ((0 : Int) ≤ Int.ofNat (a + i) ∧ (a + i) < s.length), rv1_bA2 s a i b, ieq ((7 : Int) * Int.ofNat i) (7 * i), rv1_bA1 i u b],
      .to (.exit 0) (stG [(0, .ptr (some (3, 0))), (3, .int .u64 (uS u b i)), (16, .int .i64 (Int.ofNat m)), (17, .int .i64 (Int.ofNat i))] (hL [(3, .cells [.str s, .int .i64 (Int.ofNat a), .bool false])]) 4)),
    ([((decide (Int.ofNat i < Int.ofNat m)), true), ((decide (Int.ofNat b.toNat ≥ (128 : Int))), false), ((decide (Int.ofNat i > (0 : Int))), false), (false, true), (true, false)],
      [ieq (Int.ofNat a + Int.ofNat i) (a + i), ((0 : Int) ≤ Int.ofNat (a + i) ∧ (a + i) < s.length), rv1_bA2 s a i b, ieq ((7 : Int) * Int.ofNat i) (7 * i), rv1_bA1 i u b, ieq (Int.ofNat a + IntKind.i64.wrap (Int.ofNat i + (1 : Int))) (a + (i + 1))],
      .ret (.int .i64 (IntKind.i64.wrap (uS u b i))) (hL [(3, .cells [.str s, .int .i64 (Int.ofNat (a + (i + 1))), .bool false])]) 4),
    ([((decide (Int.ofNat i < Int.ofNat m)), true), ((decide (Int.ofNat b.toNat ≥ (128 : Int))), false), ((decide (Int.ofNat i > (0 : Int))), false), (false, false), ((Int.ofNat i == (9 : Int)), true), ((decide (Int.ofNat b.toNat > (1 : Int))), true)],
      [ieq (Int.ofNat a + Int.ofNat i) (a + i), ((0 : Int) ≤ Int.ofNat (a + i) ∧ (a + i) < s.length), rv1_bA2 s a i b, ieq ((7 : Int) * Int.ofNat i) (7 * i), rv1_bA1 i u b],
      .to (.exit 0) (stG [(0, .ptr (some (3, 0))), (3, .int .u64 (uS u b i)), (16, .int .i64 (Int.ofNat m)), (17, .int .i64 (Int.ofNat i))] (hL [(3, .cells [.str s, .int .i64 (Int.ofNat a), .bool false])]) 4)),
    ([((decide (Int.ofNat i < Int.ofNat m)), true), ((decide (Int.ofNat b.toNat ≥ (128 : Int))), false), ((decide (Int.ofNat i > (0 : Int))), false), (false, false), ((Int.ofNat i == (9 : Int)), true), ((decide (Int.ofNat b.toNat > (1 : Int))), false)],
      [ieq (Int.ofNat a + Int.ofNat i) (a + i), ((0 : Int) ≤ Int.ofNat (a + i) ∧ (a + i) < s.length), rv1_bA2 s a i b, ieq ((7 : Int) * Int.ofNat i) (7 * i), rv1_bA1 i u b, ieq (Int.ofNat a + IntKind.i64.wrap (Int.ofNat i + (1 : Int))) (a + (i + 1))],
      .ret (.int .i64 (IntKind.i64.wrap (uS u b i))) (hL [(3, .cells [.str s, .int .i64 (Int.ofNat (a + (i + 1))), .bool false])]) 4),
    ([((decide (Int.ofNat i < Int.ofNat m)), true), ((decide (Int.ofNat b.toNat ≥ (128 : Int))), false), ((decide (Int.ofNat i > (0 : Int))), false), (false, false), ((Int.ofNat i == (9 : Int)), false), (false, true)],
      [ieq (Int.ofNat a + Int.ofNat i) (a + i), ((0 : Int) ≤ Int.ofNat (a + i) ∧ (a + i) < s.length), rv1_bA2 s a i b, ieq ((7 : Int) * Int.ofNat i) (7 * i), rv1_bA1 i u b],
      .to (.exit 0) (stG [(0, .ptr (some (3, 0))), (3, .int .u64 (uS u b i)), (16, .int .i64 (Int.ofNat m)), (17, .int .i64 (Int.ofNat i))] (hL [(3, .cells [.str s, .int .i64 (Int.ofNat a), .bool false])]) 4)),
    ([((decide (Int.ofNat i < Int.ofNat m)), true), ((decide (Int.ofNat b.toNat ≥ (128 : Int))), false), ((decide (Int.ofNat i > (0 : Int))), false), (false, false), ((Int.ofNat i == (9 : Int)), false), (false, false)],
      [ieq (Int.ofNat a + Int.ofNat i) (a + i), ((0 : Int) ≤ Int.ofNat (a + i) ∧ (a + i) < s.length), rv1_bA2 s a i b, ieq ((7 : Int) * Int.ofNat i) (7 * i), rv1_bA1 i u b, ieq (Int.ofNat a + IntKind.i64.wrap (Int.ofNat i + (1 : Int))) (a + (i + 1))],
      .ret (.int .i64 (IntKind.i64.wrap (uS u b i))) (hL [(3, .cells [.str s, .int .i64 (Int.ofNat (a + (i + 1))), .bool false])]) 4),
    ([((decide (Int.ofNat i < Int.ofNat m)), false)],
      [],
      .to (.exit 0) (stG [(0, .ptr (some (3, 0))), (3, .int .u64 u), (16, .int .i64 (Int.ofNat m)), (17, .int .i64 (Int.ofNat i))] (hL [(3, .cells [.str s, .int .i64 (Int.ofNat a), .bool false])]) 4))]
  := RunIs.of (by kernel_rfl) (by kernel_rfl) (by kernel_rfl)
theorem rv1_e (s : List UInt8) (a m i : Nat) (u : Int) : ∃ L, RunIs Tryz.prog (csQ []) [] 1000 4 Tryz.f110 [] (seqR tlRV) (sRV s a u m i) L
    [([],
      [],
      .ret (.int .i64 0) (hL [(3, .cells [.str s, .int .i64 (Int.ofNat a), .bool true])]) 4)]
  := RunIs.of (by kernel_rfl) (by kernel_rfl) (by kernel_rfl)
end Go.Proofs.YtfihojpgobmmdaaGreatDoor
namespace Go.Proofs.YtfihojpgobmmdaaGreatDoor
open Go Go.Eng
theorem gtok : GtOk := by
  refine ⟨by decide, fun j hj => ?_, Nat.le_of_ble_eq_true rfl⟩
  rcases j with _ | _ | _ | j
  · exact ⟨(0, 0), by simp [gtab], rfl⟩
  · exact ⟨(1, 1), by simp [gtab], rfl⟩
  · exact ⟨(2, 2), by simp [gtab], rfl⟩
  · have : gN = 3 := rfl
    omega
def rvL (s : List UInt8) (a : Nat) : Nat → Nat → Int → Option (Int × Nat)
  | 0, _, _ => none
  | k + 1, i, u => if 128 ≤ (s.getD (a + i) 0).toNat then rvL s a k (i + 1) (uS u (s.getD (a + i) 0) i)
    else if (0 < i ∧ (s.getD (a + i) 0).toNat = 0) ∨ (i = 9 ∧ 1 < (s.getD (a + i) 0).toNat) then none else some (IntKind.i64.wrap (uS u (s.getD (a + i) 0) i), i + 1)
def rdM (s : List UInt8) (a : Nat) : Nat := min 10 (s.length - a)
def rdVar (s : List UInt8) (a : Nat) : Option (Int × Nat) := rvL s a (rdM s a) 0 0
def rdV (s : List UInt8) (a : Nat) : Int × Nat × Bool := match rdVar s a with
  | some (v, k) => (v, a + k, false)
  | none => (0, a, true)
theorem wrap_nat {n : Nat} (h : n ≤ 9000000000000000000) : IntKind.i64.wrap (n : Int) = (n : Int) := wrap_id (by omega) (by omega)
theorem hOn : ∀ n : Nat, Int.ofNat n = (n : Int) := fun _ => rfl
abbrev RRV (s : List UInt8) (a : Nat) (v : V) (h : Tr O) (n : Nat) : Prop := v = .int .i64 (rdV s a).1 ∧ h = hP (rdC s (rdV s a).2.1 (rdV s a).2.2) ∧ n = 4
theorem tgRV (s : List UInt8) (a : Nat) (ha : a ≤ s.length) (hs : s.length ≤ 1000000000) : TG Tryz.prog 4 Tryz.f110.ntmps cdRV (startSt [rdP] (hP (rdC s a false)) 4) (RetG Tryz.prog 4 Tryz.f110 (RRV s a)) := by
  obtain ⟨L1, hr1⟩ := rv1_h s a
  refine TG_isN1 3 (XQ []) mo (by kernel_rfl) hr1 all_nil ?_
  refine TG_seq' (by kernel_rfl) ?_
  refine TG_seq' (by kernel_rfl) ?_
  obtain ⟨L2, hr2⟩ := rv1_i s a (rdM s a)
  have hm : rdM s a ≤ 10 ∧ rdM s a ≤ s.length - a := ⟨Nat.min_le_left _ _, Nat.min_le_right _ _⟩
  have hmm : (if IntKind.i64.wrap ((Int.ofNat s.length) - Int.ofNat a) < (10 : Int) then IntKind.i64.wrap ((Int.ofNat s.length) - Int.ofNat a) else (10 : Int)) = Int.ofNat (rdM s a) := by
    have hw : IntKind.i64.wrap ((Int.ofNat s.length) - Int.ofNat a) = ((s.length - a : Nat) : Int) := by
      have : (Int.ofNat s.length) - Int.ofNat a = ((s.length - a : Nat) : Int) := by rw [hOn, hOn]; omega
      rw [this]
      exact wrap_nat (by omega)
    rw [hw, hOn]
    unfold rdM
    split <;> omega
  refine TG_is (XQ []) mo anyR (by kernel_rfl) hr2 fun g hg _ => ?_
  rw [List.mem_singleton] at hg; subst hg
  refine ⟨List.forall_mem_cons.2 ⟨by rw [hmm], List.forall_mem_cons.2 ⟨rfl, all_nil⟩⟩, fun s' hs' => ?_⟩
  have hend : ∀ u i, rdVar s a = none → TG Tryz.prog 4 Tryz.f110.ntmps (seqR tlRV) (sRV s a u (rdM s a) i) (RetG Tryz.prog 4 Tryz.f110 (RRV s a)) := by
    intro u i hn
    obtain ⟨L, hr⟩ := rv1_e s a (rdM s a) i u
    refine TG_ret (XQ []) mo _ (by kernel_rfl) hr fun g hg _ => ?_
    rw [List.mem_singleton] at hg; subst hg
    refine ⟨all_nil, _, _, _, rfl, ?_⟩
    unfold RRV rdV; rw [hn]
    exact ⟨rfl, rfl, rfl⟩
  refine TG_whileN (α := Nat × Int) 0 (fun x => rdM s a - x.1) (fun x => x.1 ≤ rdM s a ∧ rdVar s a = rvL s a (rdM s a - x.1) x.1 x.2) (fun x => sRV s a x.2 (rdM s a) x.1) (by kernel_rfl) (by kernel_rfl) (0, 0) ⟨Nat.zero_le _, rfl⟩ (.norm hs') ?_
  rintro ⟨i, u⟩ ⟨hi, hv⟩
  simp only at hi hv ⊢
  have hlt128 : ∀ b : UInt8, b.toNat < 256 := fun b => b.toNat_lt
  obtain ⟨L3, hr3⟩ := rv1_b s a (rdM s a) i u (s.getD (a + i) 0)
  refine TG_is (XQ []) mo (RRV s a) (by kernel_rfl) hr3 fun g hg hc => ?_
  have hA : ∀ k, i < rdM s a → k < 1000000000 → (0 : Int) ≤ Int.ofNat (a + i) ∧ (Int.ofNat (a + i)).toNat < s.length := fun k h _ => by rw [hOn]; constructor <;> omega
  by_cases hlt : i < rdM s a
  case neg =>
    have hn : rdVar s a = none := by rw [hv, show rdM s a - i = 0 by omega]; rfl
    simp only [List.mem_cons, List.not_mem_nil, or_false] at hg
    have hf : decide (Int.ofNat i < Int.ofNat (rdM s a)) = false := decide_eq_false (by rw [hOn, hOn]; omega)
    rcases hg with rfl | rfl | rfl | rfl | rfl | rfl | rfl | rfl | rfl | rfl | rfl | rfl | rfl | rfl
    all_goals first
      | (have := hc _ (List.mem_cons_self ..); simp only [hf] at this; cases this; done)
      | skip
    exact ⟨all_nil, fun s' hs' => by simp only [andThen, outOf_exit]; exact TG_norm hs' (hend u i hn)⟩
  case pos =>
  have e1 : ieq (Int.ofNat a + Int.ofNat i) (a + i) := ieq_ok (by rw [hOn, hOn]; omega) (by omega)
  have e2 := hA 0 hlt (by decide)
  have e3 : rv1_bA2 s a i (s.getD (a + i) 0) := rfl
  have e4 : ieq ((7 : Int) * Int.ofNat i) (7 * i) := ieq_ok (by rw [hOn]; omega) (by omega)
  have e5 : rv1_bA1 i u (s.getD (a + i) 0) := rfl
  have e6 : ieq (Int.ofNat i + (1 : Int)) (i + 1) := ieq_ok (by rw [hOn]; omega) (by omega)
  have e7 : ieq (Int.ofNat a + IntKind.i64.wrap (Int.ofNat i + (1 : Int))) (a + (i + 1)) := by
    have : IntKind.i64.wrap (Int.ofNat i + (1 : Int)) = ((i + 1 : Nat) : Int) := by
      have : Int.ofNat i + 1 = ((i + 1 : Nat) : Int) := by rw [hOn]; omega
      rw [this]; exact wrap_nat (by omega)
    exact ieq_ok (by rw [this, hOn]; omega) (by omega)
  have hstep : rdVar s a = if 128 ≤ (s.getD (a + i) 0).toNat then rvL s a (rdM s a - (i + 1)) (i + 1) (uS u (s.getD (a + i) 0) i)
    else if (0 < i ∧ (s.getD (a + i) 0).toNat = 0) ∨ (i = 9 ∧ 1 < (s.getD (a + i) 0).toNat) then none else some (IntKind.i64.wrap (uS u (s.getD (a + i) 0) i), i + 1) := by
    rw [hv, show rdM s a - i = (rdM s a - (i + 1)) + 1 by omega]; rfl
  generalize s.getD (a + i) 0 = b at *
  have hgo : 128 ≤ b.toNat → ∀ s', normG 4 [0, 3, 16, 17] s' = some (sRV s a (uS u b i) (rdM s a) (i + 1)) → ∃ x' : Nat × Int, rdM s a - x'.1 < rdM s a - i ∧ (x'.1 ≤ rdM s a ∧ rdVar s a = rvL s a (rdM s a - x'.1) x'.1 x'.2) ∧ Goes Tryz.prog 4 Tryz.f110.ntmps s' (sRV s a x'.2 (rdM s a) x'.1) := fun h s' hs' =>
    ⟨(i + 1, uS u b i), by simp only; omega, ⟨by simp only; omega, by rw [hstep, if_pos h]⟩, .norm hs'⟩
  have hbad : ¬ 128 ≤ b.toNat → ((0 < i ∧ b.toNat = 0) ∨ (i = 9 ∧ 1 < b.toNat)) → ∀ s', normG 4 [0, 3, 16, 17] s' = some (sRV s a (uS u b i) (rdM s a) i) → TG Tryz.prog 4 Tryz.f110.ntmps (seqR tlRV) s' (RetG Tryz.prog 4 Tryz.f110 (RRV s a)) := fun h1 h2 s' hs' =>
    TG_norm hs' (hend _ _ (by rw [hstep, if_neg h1, if_pos h2]))
  have hret : ¬ 128 ≤ b.toNat → ¬ ((0 < i ∧ b.toNat = 0) ∨ (i = 9 ∧ 1 < b.toNat)) → RRV s a (.int .i64 (IntKind.i64.wrap (uS u b i))) (hL [(3, .cells [.str s, .int .i64 (Int.ofNat (a + (i + 1))), .bool false])]) 4 := fun h1 h2 => by
    unfold RRV rdV; rw [hstep, if_neg h1, if_neg h2]
    exact ⟨rfl, rfl, rfl⟩
  have q1 : (decide (Int.ofNat b.toNat ≥ (128 : Int))) = decide (128 ≤ b.toNat) := by rw [hOn]; exact decide_eq_decide.2 (by omega)
  have q2 : (decide (Int.ofNat i > (0 : Int))) = decide (0 < i) := by rw [hOn]; exact decide_eq_decide.2 (by omega)
  have q3 : (Int.ofNat b.toNat == (0 : Int)) = decide (b.toNat = 0) := by
    rw [hOn]; by_cases h : b.toNat = 0
    · simp [h]
    · rw [decide_eq_false h]; simpa using h
  have q4 : (Int.ofNat i == (9 : Int)) = decide (i = 9) := by
    rw [hOn]; by_cases h : i = 9
    · simp [h]
    · rw [decide_eq_false h]
      exact beq_false_of_ne (by omega)
  have q5 : (decide (Int.ofNat b.toNat > (1 : Int))) = decide (1 < b.toNat) := by rw [hOn]; exact decide_eq_decide.2 (by omega)
  simp only [List.mem_cons, List.not_mem_nil, or_false] at hg
  rw [q1, q2, q3, q4, q5] at hg
  have A5 := fm e1 (fm e2 (fm e3 (fm e4 (fm1 e5))))
  have A6 := fm e1 (fm e2 (fm e3 (fm e4 (fm e5 (fm1 e6)))))
  have A7 := fm e1 (fm e2 (fm e3 (fm e4 (fm e5 (fm1 e7)))))
  have hbad : ¬ 128 ≤ b.toNat → ((0 < i ∧ b.toNat = 0) ∨ (i = 9 ∧ 1 < b.toNat)) → ∀ (Q1 : St → Prop) (s' : St), normG 4 [0, 3, 16, 17] s' = some (sRV s a (uS u b i) (rdM s a) i) → andThen Q1 (outOf 0 (andThen (fun s' => TG Tryz.prog 4 Tryz.f110.ntmps (seqR (tailN 3 cdRV)) s' (RetG Tryz.prog 4 Tryz.f110 (RRV s a))) (RetG Tryz.prog 4 Tryz.f110 (RRV s a)))) (.exit 0) s' := fun h1 h2 Q1 s' hs' => by
    simp only [andThen, outOf_exit]; exact hbad h1 h2 s' hs'
  rcases hg with rfl | rfl | rfl | rfl | rfl | rfl | rfl | rfl | rfl | rfl | rfl | rfl | rfl | rfl
  all_goals
    simp only [List.mem_cons, List.not_mem_nil, or_false, forall_eq_or_imp, forall_eq, decide_eq_true_eq, decide_eq_false_iff_not, reduceCtorEq, and_false, and_true] at hc
  all_goals first | exact hc.elim | skip
  · exact ⟨A6, fun s' hs' => hgo hc.2 s' hs'⟩
  · exact ⟨A5, fun s' hs' => hbad hc.2.1 (by omega) _ s' hs'⟩
  · exact ⟨A5, fun s' hs' => hbad hc.2.1 (by omega) _ s' hs'⟩
  all_goals first
    | exact ⟨A7, hret hc.2.1 (by omega), fun s' hs' => hs'⟩
    | exact ⟨A5, fun s' hs' => hbad hc.2.1 (by omega) _ s' hs'⟩
    | exact absurd hlt (by rw [hOn, hOn] at hc; omega)
end Go.Proofs.YtfihojpgobmmdaaGreatDoor
namespace Go.Proofs.YtfihojpgobmmdaaGreatDoor
open Go Go.Eng
def rdVf (s : List UInt8) (a : Nat) (f : Bool) : Int × Nat × Bool := if f then (0, a, true) else rdV s a
theorem rdV_at (s : List UInt8) (a : Nat) (h : a ≤ s.length) : (rdV s a).2.1 ≤ s.length ∧ a ≤ (rdV s a).2.1 := by
  have key : ∀ k i u v n, i + k ≤ s.length - a → rvL s a k i u = some (v, n) → n ≤ s.length - a := by
    intro k
    induction k with
    | zero => intro i u v n _ e; cases e
    | succ k ih =>
      intro i u v n hi e
      unfold rvL at e
      split at e
      · exact ih _ _ _ _ (by omega) e
      · split at e
        · cases e
        · simp only [Option.some.injEq, Prod.mk.injEq] at e; omega
  unfold rdV
  have hm : rdM s a ≤ s.length - a := Nat.min_le_right _ _
  cases e : rdVar s a with
  | none => exact ⟨h, Nat.le_refl _⟩
  | some p =>
    have := key _ _ _ _ _ (by omega) e
    exact ⟨by simp only; omega, by simp only; omega⟩
def spV : List V → List V → Option (List Prop × V × List V)
  | [.str s, .int .i64 x, .bool f], [] => some ([0 ≤ x ∧ x.toNat ≤ s.length, s.length ≤ 1000000000], .int .i64 (rdVf s x.toNat f).1, rdC s (rdVf s x.toNat f).2.1 (rdVf s x.toNat f).2.2)
  | _, _ => none
theorem one_RV : OneW Tryz.prog 110 (ptrW spV) := by
  refine ptrW_ok mo po gtok (Nat.le_of_ble_eq_true (by kernel_rfl)) Tryz.func110 (code := cdRV) (by kernel_rfl) fun cs args A v cs2 e hA => ⟨?_, ?_⟩
  all_goals
    unfold spV at e
    split at e
    case h_2 => cases e
    rename_i s x f
    simp only [Option.some.injEq, Prod.mk.injEq] at e; obtain ⟨rfl, rfl, rfl⟩ := e
  · kernel_rfl
  obtain ⟨a1, a2⟩ := hA _ (List.mem_cons_self ..)
  have a3 : s.length ≤ 1000000000 := hA (s.length ≤ 1000000000) (by simp)
  obtain ⟨a, rfl⟩ : ∃ a : Nat, x = Int.ofNat a := ⟨x.toNat, (Int.toNat_of_nonneg a1).symm⟩
  have a2 : a ≤ s.length := a2
  cases f with
  | false => exact tgRV s a a2 a3
  | true =>
    obtain ⟨L, hr⟩ := rv1_t s (Int.ofNat a)
    refine TG_ret (XQ []) mo _ (by kernel_rfl) hr fun g hg _ => ?_
    rw [List.mem_singleton] at hg; subst hg
    exact ⟨all_nil, _, _, _, rfl, rfl, rfl, rfl⟩
noncomputable abbrev W17 : CtrW := addW 110 (ptrW spV) W14
theorem W17_ok : CtrWOk Tryz.prog W17 := addW_ok one_RV W14_ok
noncomputable abbrev cs17 : CallS := callX Tryz.prog W17 H0 1000 40
noncomputable abbrev X17 : CX Tryz.prog := CX.of mo po W17_ok H0 1000 40
noncomputable abbrev cdRT : Code := bodyOf Tryz.f111
theorem rt_t (s : List UInt8) (a : Nat) (n : Int) : ∃ L, RunIs Tryz.prog cs17 [] 1000 4 Tryz.f111 [] (cdRT) (startSt [rdP, .int .i64 n] (hP (rdC s a true)) 4) L
    [([],
      [],
      .ret (.str []) (hL [(3, .cells [.str s, .int .i64 (Int.ofNat a), .bool true])]) 4)]
  := RunIs.of (by kernel_rfl) (by kernel_rfl) (by kernel_rfl)
abbrev rt_fA1 (s : List UInt8) (a : Nat) (n : Int) : Prop := (0 : Int) ≤ Int.ofNat (a + n.toNat) ∧ Int.ofNat (a + n.toNat) ≤ (Int.ofNat s.length)
theorem rt_f (s : List UInt8) (a l : Nat) (n : Int) : ∃ L, RunIs Tryz.prog (csQ [(105, [(14, .give (.int .i64 (Int.ofNat l)))])]) [(17, .split), (22, .split), (33, .give (.int .i64 (Int.ofNat (a + n.toNat)))), (45, .give (.int .i64 (Int.ofNat a)))] 1000 4 Tryz.f111 [] (cdRT) (startSt [rdP, .int .i64 n] (hP (rdC s a false)) 4) L
    [([((decide (n < (0 : Int))), true), (true, true)],
      [],
      .ret (.str []) (hL [(3, .cells [.str s, .int .i64 (Int.ofNat a), .bool true])]) 4),
    ([((decide (n < (0 : Int))), true), (true, false)],
      [ieq (Int.ofNat a + n) (a + n.toNat), ieq (Int.ofNat (a + n.toNat) - n) a, rt_fA1 s a n, ((0 : Int) ≤ Int.ofNat a ∧ Int.ofNat a ≤ (Int.ofNat (a + n.toNat)))],
      .ret (.str (List.drop a (List.take (a + n.toNat) s))) (hL [(3, .cells [.str s, .int .i64 (Int.ofNat (a + n.toNat)), .bool false])]) 4),
    ([((decide (n < (0 : Int))), false), ((decide (n > Int.ofNat l)), true)],
      [ieq ((Int.ofNat s.length) - Int.ofNat a) l],
      .ret (.str []) (hL [(3, .cells [.str s, .int .i64 (Int.ofNat a), .bool true])]) 4),
    ([((decide (n < (0 : Int))), false), ((decide (n > Int.ofNat l)), false)],
      [ieq ((Int.ofNat s.length) - Int.ofNat a) l, ieq (Int.ofNat a + n) (a + n.toNat), ieq (Int.ofNat (a + n.toNat) - n) a, rt_fA1 s a n, ((0 : Int) ≤ Int.ofNat a ∧ Int.ofNat a ≤ (Int.ofNat (a + n.toNat)))],
      .ret (.str (List.drop a (List.take (a + n.toNat) s))) (hL [(3, .cells [.str s, .int .i64 (Int.ofNat (a + n.toNat)), .bool false])]) 4)]
  := RunIs.of (by kernel_rfl) (by kernel_rfl) (by kernel_rfl)
end Go.Proofs.YtfihojpgobmmdaaGreatDoor
namespace Go.Proofs.YtfihojpgobmmdaaGreatDoor
open Go Go.Eng
def rdT (s : List UInt8) (a : Nat) (f : Bool) (n : Int) : List UInt8 × Nat × Bool := if f = true ∨ n < 0 ∨ ((s.length - a : Nat) : Int) < n then ([], a, true) else ((s.drop a).take n.toNat, a + n.toNat, false)
def spT : List V → List V → Option (List Prop × V × List V)
  | [.str s, .int .i64 x, .bool f], [.int .i64 n] => some ([0 ≤ x ∧ x.toNat ≤ s.length, s.length ≤ 1000000000], .str (rdT s x.toNat f n).1, rdC s (rdT s x.toNat f n).2.1 (rdT s x.toNat f n).2.2)
  | _, _ => none
theorem one_RT : OneW Tryz.prog 111 (ptrW spT) := by
  refine ptrW_ok mo po gtok (Nat.le_of_ble_eq_true (by kernel_rfl)) Tryz.func111 (code := cdRT) (by kernel_rfl) fun cs args A v cs2 e hA => ⟨?_, ?_⟩
  all_goals
    unfold spT at e
    split at e
    case h_2 => cases e
    rename_i s x f n
    simp only [Option.some.injEq, Prod.mk.injEq] at e; obtain ⟨rfl, rfl, rfl⟩ := e
  · kernel_rfl
  obtain ⟨a1, a2⟩ := hA _ (List.mem_cons_self ..)
  have a3 : s.length ≤ 1000000000 := hA (s.length ≤ 1000000000) (by simp)
  obtain ⟨a, rfl⟩ : ∃ a : Nat, x = Int.ofNat a := ⟨x.toNat, (Int.toNat_of_nonneg a1).symm⟩
  have a2 : a ≤ s.length := a2
  rw [show (Int.ofNat a).toNat = a from rfl]
  cases f with
  | true =>
    obtain ⟨L, hr⟩ := rt_t s a n
    refine TG_ret X17 mo _ (by kernel_rfl) hr fun g hg _ => ?_
    rw [List.mem_singleton] at hg; subst hg
    exact ⟨all_nil, _, _, _, rfl, rfl, rfl, rfl⟩
  | false =>
    obtain ⟨L, hr⟩ := rt_f s a (s.length - a) n
    have hl : ieq ((Int.ofNat s.length) - Int.ofNat a) (s.length - a) := ieq_ok (by rw [hOn, hOn]; omega) (by omega)
    refine TG_ret (XQ [(105, [(14, .give (.int .i64 (Int.ofNat (s.length - a))))])]) mo _ (by kernel_rfl) hr fun g hg hc => ?_
    simp only [List.mem_cons, List.not_mem_nil, or_false] at hg
    rcases hg with rfl | rfl | rfl | rfl
    all_goals
      simp only [List.mem_cons, List.not_mem_nil, or_false, forall_eq_or_imp, forall_eq, decide_eq_true_eq, decide_eq_false_iff_not, reduceCtorEq, and_false, and_true, hOn] at hc
    · refine ⟨all_nil, _, _, _, rfl, ?_⟩
      unfold rdT; rw [if_pos (.inr (.inl hc))]
      exact ⟨rfl, rfl, rfl⟩
    · refine ⟨fm1 hl, _, _, _, rfl, ?_⟩
      unfold rdT; rw [if_pos (.inr (.inr (by omega)))]
      exact ⟨rfl, rfl, rfl⟩
    · obtain ⟨h1, h2⟩ := hc
      have hn : ((n.toNat : Nat) : Int) = n := Int.toNat_of_nonneg (by omega)
      refine ⟨fm hl (fm (ieq_ok (by rw [hOn]; omega) (by omega)) (fm (ieq_ok (by rw [hOn]; omega) (by omega)) (fm ⟨Int.natCast_nonneg _, by rw [hOn, hOn]; omega⟩ (fm1 ⟨Int.natCast_nonneg _, by rw [hOn, hOn]; omega⟩)))), _, _, _, rfl, ?_⟩
      unfold rdT; rw [if_neg (by simp only [Bool.false_eq_true, false_or]; omega)]
      rw [List.drop_take, Nat.add_sub_cancel_left]
      exact ⟨rfl, rfl, rfl⟩
noncomputable abbrev W18 : CtrW := addW 111 (ptrW spT) W17
theorem W18_ok : CtrWOk Tryz.prog W18 := addW_ok one_RT W17_ok
noncomputable abbrev cs18 : CallS := callX Tryz.prog W18 H0 1000 40
noncomputable abbrev X18 : CX Tryz.prog := CX.of mo po W18_ok H0 1000 40
noncomputable abbrev cdRX : Code := bodyOf Tryz.f106
noncomputable abbrev cdRN : Code := bodyOf Tryz.f107
noncomputable abbrev tlRN : Code := tailN 2 cdRN
noncomputable abbrev lpRN : Code := seqL tlRN
def sRN (s : List UInt8) (a : Nat) (f : Bool) (n : Int) (t : List UInt8) (i : Nat) : St := stG [(0, rdP), (5, .int .i64 n), (12, .slc (some (4, 0)) t.length t.length 1), (13, .int .i64 (Int.ofNat t.length)), (14, .int .i64 (Int.ofNat i))] (hL [(3, .cells (rdC s a f)), (4, .own .u8 (bytesI t))]) 5
noncomputable abbrev cs18k (k : Nat) : CallS := callX Tryz.prog W18 (hints [(85, [(5, .give (.int .i64 (Int.ofNat k)))])]) 1000 40
noncomputable abbrev X18k (k : Nat) : CX Tryz.prog := CX.of mo po W18_ok (hints [(85, [(5, .give (.int .i64 (Int.ofNat k)))])]) 1000 40
def numS (n : Int) (b : UInt8) : Int := IntKind.i64.wrap (Int.ofNat (BitVec.ofInt 64 (IntKind.i64.wrap (n * (256 : Int))) ||| BitVec.ofInt 64 (IntKind.i64.wrap (Int.ofNat b.toNat))).toNat)
abbrev rx_1A1 (s : List UInt8) (a : Nat) (f : Bool) : Prop := (0 : Int) ≤ Int.ofNat (rdVf s a f).snd.fst ∧ (Int.ofNat (rdVf s a f).snd.fst).toNat ≤ s.length
theorem rx_1 (s : List UInt8) (a : Nat) (f : Bool) : ∃ L, RunIs Tryz.prog cs18 [(21, .split)] 1000 4 Tryz.f106 [] (cdRX) (startSt [rdP] (hP (rdC s a f)) 4) L
    [([(((rdT s (Int.ofNat (rdVf s a f).snd.fst).toNat (rdVf s a f).snd.snd (rdVf s a f).fst).snd.snd), true)],
      [((0 : Int) ≤ Int.ofNat a ∧ a ≤ s.length), (s.length ≤ 1000000000), rx_1A1 s a f, (s.length ≤ 1000000000)],
      .ret (.str ((rdT s (Int.ofNat (rdVf s a f).snd.fst).toNat (rdVf s a f).snd.snd (rdVf s a f).fst).fst)) (hL [(3, .cells [.str s, .int .i64 (Int.ofNat a), .bool ((rdT s (Int.ofNat (rdVf s a f).snd.fst).toNat (rdVf s a f).snd.snd (rdVf s a f).fst).snd.snd)])]) 4),
    ([(((rdT s (Int.ofNat (rdVf s a f).snd.fst).toNat (rdVf s a f).snd.snd (rdVf s a f).fst).snd.snd), false)],
      [((0 : Int) ≤ Int.ofNat a ∧ a ≤ s.length), (s.length ≤ 1000000000), rx_1A1 s a f, (s.length ≤ 1000000000)],
      .ret (.str ((rdT s (Int.ofNat (rdVf s a f).snd.fst).toNat (rdVf s a f).snd.snd (rdVf s a f).fst).fst)) (hL [(3, .cells [.str s, .int .i64 (Int.ofNat (rdT s (Int.ofNat (rdVf s a f).snd.fst).toNat (rdVf s a f).snd.snd (rdVf s a f).fst).snd.fst), .bool ((rdT s (Int.ofNat (rdVf s a f).snd.fst).toNat (rdVf s a f).snd.snd (rdVf s a f).fst).snd.snd)])]) 4)]
  := RunIs.of (by kernel_rfl) (by kernel_rfl) (by kernel_rfl)
theorem rn_1 (s : List UInt8) (a : Nat) (f : Bool) (k : Nat) : ∃ L, RunIs Tryz.prog cs18 [] 1000 4 Tryz.f107 [0, 1, 5] (headN 2 cdRN) (startSt [rdP, .int .i64 (Int.ofNat k)] (hP (rdC s a f)) 4) L
    [([],
      [],
      .to .normal (stG [(0, .ptr (some (3, 0))), (1, .int .i64 (Int.ofNat k)), (5, .int .i64 0)] (hL [(3, .cells [.str s, .int .i64 (Int.ofNat a), .bool f])]) 4))]
  := RunIs.of (by kernel_rfl) (by kernel_rfl) (by kernel_rfl)
theorem rn_2 (s : List UInt8) (a : Nat) (f : Bool) (k : Nat) : ∃ L, RunIs Tryz.prog (cs18k k) [(14, .give (.int .i64 (Int.ofNat 0)))] 1000 4 Tryz.f107 [0, 5, 12, 13, 14] (seqL lpRN) (stG [(0, rdP), (1, .int .i64 (Int.ofNat k)), (5, .int .i64 0)] (hP (rdC s a f)) 4) L
    [([],
      [(V.int IntKind.i64 (if (if (8 : Int) < Int.ofNat k then (8 : Int) else Int.ofNat k) > (0 : Int) then if (8 : Int) < Int.ofNat k then (8 : Int) else Int.ofNat k else (0 : Int)) = V.int IntKind.i64 (Int.ofNat k)), ((0 : Int) ≤ Int.ofNat a ∧ a ≤ s.length), (s.length ≤ 1000000000), (V.int IntKind.i64 (0 : Int) = V.int IntKind.i64 (0 : Int))],
      .to .normal (stG [(0, .ptr (some (3, 0))), (5, .int .i64 0), (12, .slc (some (4, 0)) ((rdT s a f (Int.ofNat k)).fst.length) ((rdT s a f (Int.ofNat k)).fst.length) 1), (13, .int .i64 ((Int.ofNat (rdT s a f (Int.ofNat k)).fst.length))), (14, .int .i64 0)] (hL [(3, .cells [.str s, .int .i64 (Int.ofNat (rdT s a f (Int.ofNat k)).snd.fst), .bool ((rdT s a f (Int.ofNat k)).snd.snd)]), (4, .own .u8 (bytesI (rdT s a f (Int.ofNat k)).fst))]) 5))]
  := RunIs.of (by kernel_rfl) (by kernel_rfl) (by kernel_rfl)
theorem rn_3 (s : List UInt8) (a : Nat) (f : Bool) (n : Int) (t : List UInt8) (i : Nat) (b : UInt8) : ∃ L, RunIs Tryz.prog cs18 [(15, .split), (17, .give (.int .u8 (Int.ofNat b.toNat))), (22, .give (.int .i64 (numS n b))), (23, .give (.int .i64 (Int.ofNat (i + 1))))] 1000 4 Tryz.f107 [0, 5, 12, 13, 14] (inner (inner (seqR lpRN))) (sRN s a f n t i) L
    [([((decide (Int.ofNat i < Int.ofNat t.length)), true)],
      [((0 : Int) ≤ Int.ofNat i ∧ Int.ofNat i < (Int.ofNat t.length)), (0 + i * 1 < (bytesI t).length), (V.int IntKind.u8 ((bytesI t).getD (0 + i * 1) (0 : Int)) = V.int IntKind.u8 (Int.ofNat b.toNat)), (V.int IntKind.i64 (IntKind.i64.wrap (Int.ofNat (BitVec.ofInt 64 (IntKind.i64.wrap (n * (256 : Int))) ||| BitVec.ofInt 64 (IntKind.i64.wrap (Int.ofNat b.toNat))).toNat)) = V.int IntKind.i64 (numS n b)), ieq (Int.ofNat i + (1 : Int)) (i + 1)],
      .to .normal (stG [(0, .ptr (some (3, 0))), (5, .int .i64 (numS n b)), (12, .slc (some (4, 0)) (t.length) (t.length) 1), (13, .int .i64 (Int.ofNat t.length)), (14, .int .i64 (Int.ofNat (i + 1)))] (hL [(3, .cells [.str s, .int .i64 (Int.ofNat a), .bool f]), (4, .own .u8 (bytesI t))]) 5)),
    ([((decide (Int.ofNat i < Int.ofNat t.length)), false)],
      [],
      .to (.exit 0) (stG [(0, .ptr (some (3, 0))), (5, .int .i64 n), (12, .slc (some (4, 0)) (t.length) (t.length) 1), (13, .int .i64 (Int.ofNat t.length)), (14, .int .i64 (Int.ofNat i))] (hL [(3, .cells [.str s, .int .i64 (Int.ofNat a), .bool f]), (4, .own .u8 (bytesI t))]) 5))]
  := RunIs.of (by kernel_rfl) (by kernel_rfl) (by kernel_rfl)
theorem rn_4 (s : List UInt8) (a : Nat) (f : Bool) (n : Int) (t : List UInt8) (i : Nat) : ∃ L, RunIs Tryz.prog cs18 [] 1000 4 Tryz.f107 [] (seqR tlRN) (sRN s a f n t i) L
    [([],
      [],
      .ret (.int .i64 n) (hL [(3, .cells [.str s, .int .i64 (Int.ofNat a), .bool f])]) 4)]
  := RunIs.of (by kernel_rfl) (by kernel_rfl) (by kernel_rfl)
end Go.Proofs.YtfihojpgobmmdaaGreatDoor
namespace Go.Proofs.YtfihojpgobmmdaaGreatDoor
open Go Go.Eng
theorem rdVf_at (s : List UInt8) (a : Nat) (f : Bool) (h : a ≤ s.length) : (rdVf s a f).2.1 ≤ s.length := by
  unfold rdVf; split
  · exact h
  · exact (rdV_at s a h).1
def rdTx (s : List UInt8) (a : Nat) (f : Bool) : List UInt8 × Nat × Bool :=
  ((rdT s (rdVf s a f).2.1 (rdVf s a f).2.2 (rdVf s a f).1).1, if (rdT s (rdVf s a f).2.1 (rdVf s a f).2.2 (rdVf s a f).1).2.2 then a else (rdT s (rdVf s a f).2.1 (rdVf s a f).2.2 (rdVf s a f).1).2.1, (rdT s (rdVf s a f).2.1 (rdVf s a f).2.2 (rdVf s a f).1).2.2)
def spX : List V → List V → Option (List Prop × V × List V)
  | [.str s, .int .i64 x, .bool f], [] => some ([0 ≤ x ∧ x.toNat ≤ s.length, s.length ≤ 1000000000], .str (rdTx s x.toNat f).1, rdC s (rdTx s x.toNat f).2.1 (rdTx s x.toNat f).2.2)
  | _, _ => none
theorem one_RX : OneW Tryz.prog 106 (ptrW spX) := by
  refine ptrW_ok mo po gtok (Nat.le_of_ble_eq_true (by kernel_rfl)) Tryz.func106 (code := cdRX) (by kernel_rfl) fun cs args A v cs2 e hA => ⟨?_, ?_⟩
  all_goals
    unfold spX at e
    split at e
    case h_2 => cases e
    rename_i s x f
    simp only [Option.some.injEq, Prod.mk.injEq] at e; obtain ⟨rfl, rfl, rfl⟩ := e
  · kernel_rfl
  obtain ⟨a1, a2⟩ := hA _ (List.mem_cons_self ..)
  have a3 : s.length ≤ 1000000000 := hA (s.length ≤ 1000000000) (by simp)
  obtain ⟨a, rfl⟩ : ∃ a : Nat, x = Int.ofNat a := ⟨x.toNat, (Int.toNat_of_nonneg a1).symm⟩
  have a2 : a ≤ s.length := a2
  rw [show (Int.ofNat a).toNat = a from rfl]
  obtain ⟨L, hr⟩ := rx_1 s a f
  have h1 := rdVf_at s a f a2
  refine TG_ret X18 mo _ (by kernel_rfl) hr fun g hg hc => ?_
  simp only [List.mem_cons, List.not_mem_nil, or_false] at hg
  have A : ∀ p ∈ [((0 : Int) ≤ Int.ofNat a ∧ a ≤ s.length), (s.length ≤ 1000000000), ((0 : Int) ≤ Int.ofNat (rdVf s a f).snd.fst ∧ (Int.ofNat (rdVf s a f).snd.fst).toNat ≤ s.length), (s.length ≤ 1000000000)], p :=
    fm ⟨Int.natCast_nonneg _, a2⟩ (fm a3 (fm ⟨Int.natCast_nonneg _, h1⟩ (fm1 a3)))
  rcases hg with rfl | rfl
  all_goals
    have q := hc _ (List.mem_singleton.2 rfl)
    refine ⟨A, _, _, _, rfl, rfl, ?_, rfl⟩
    have q : (rdTx s a f).2.2 = _ := q
    have q' : (rdTx s a f).2.1 = if (rdTx s a f).2.2 then a else (rdT s (rdVf s a f).2.1 (rdVf s a f).2.2 (rdVf s a f).1).2.1 := rfl
    rw [q] at q'
    rw [q']
    rfl
def rdN (s : List UInt8) (a : Nat) (f : Bool) (k : Nat) : Int × Nat × Bool := ((rdT s a f (Int.ofNat k)).1.foldl numS 0, (rdT s a f (Int.ofNat k)).2.1, (rdT s a f (Int.ofNat k)).2.2)
theorem bytesI_get {t : List UInt8} {i : Nat} {b : UInt8} (h : t[i]? = some b) : (bytesI t).getD (0 + i * 1) 0 = Int.ofNat b.toNat := by
  unfold bytesI
  rw [List.getD_eq_getElem?_getD, Nat.zero_add, Nat.mul_one, List.getElem?_map, h]; rfl
theorem tgRN (s : List UInt8) (a k : Nat) (f : Bool) (ha : a ≤ s.length) (hs : s.length ≤ 1000000000) (hk : k ≤ 8) : TG Tryz.prog 4 Tryz.f107.ntmps cdRN (startSt [rdP, .int .i64 (Int.ofNat k)] (hP (rdC s a f)) 4)
    (RetG Tryz.prog 4 Tryz.f107 fun v h n => v = .int .i64 (rdN s a f k).1 ∧ h = hP (rdC s (rdN s a f k).2.1 (rdN s a f k).2.2) ∧ n = 4) := by
  obtain ⟨L1, hr1⟩ := rn_1 s a f k
  refine TG_isN1 2 X18 mo (by kernel_rfl) hr1 all_nil ?_
  refine TG_seq' (by kernel_rfl) ?_
  refine TG_seq' (by kernel_rfl) ?_
  obtain ⟨L2, hr2⟩ := rn_2 s a f k
  refine TG_is (X18k k) mo anyR (by kernel_rfl) hr2 fun g hg _ => ?_
  rw [List.mem_singleton] at hg; subst hg
  refine ⟨fm (congrArg (V.int IntKind.i64) ?_) (fm ⟨Int.natCast_nonneg _, ha⟩ (fm hs (fm1 rfl))), fun s' hs' => ?_⟩
  · simp only [hOn]
    split <;> split <;> omega
  have hlen : (rdT s a f (Int.ofNat k)).1.length ≤ 8 := by
    unfold rdT; split
    · simp
    · simp only [List.length_take, hOn, Int.toNat_natCast]; omega
  unfold rdN
  generalize hT : rdT s a f (Int.ofNat k) = T at hs' hlen ⊢
  obtain ⟨t, a1, f1⟩ := T
  have hs' : normG 4 [0, 5, 12, 13, 14] s' = some (sRN s a1 f1 ((t.take 0).foldl numS 0) t 0) := hs'
  simp only at hlen ⊢
  refine TG_forN 0 t.length (fun i => sRN s a1 f1 ((t.take i).foldl numS 0) t i) (by kernel_rfl) (by kernel_rfl) (.norm hs') (fun i hi => ?_) ?_
  · obtain ⟨b, hb⟩ : ∃ b, t[i]? = some b := ⟨_, List.getElem?_eq_getElem hi⟩
    obtain ⟨L3, hr3⟩ := rn_3 s a1 f1 ((t.take i).foldl numS 0) t i b
    refine TG_is X18 mo anyR (by kernel_rfl) hr3 fun g hg hc => ?_
    simp only [List.mem_cons, List.not_mem_nil, or_false] at hg
    rcases hg with rfl | rfl
    · refine ⟨fm ⟨Int.natCast_nonneg _, by rw [hOn, hOn]; omega⟩ (fm (by simp only [bytesI, List.length_map]; omega) (fm (congrArg _ (bytesI_get hb)) (fm rfl (fm1 (ieq_ok (by rw [hOn]; omega) (by omega)))))), fun s' hs' => .norm (live := [0, 5, 12, 13, 14]) ?_⟩
      show _ = some (sRN s a1 f1 ((t.take (i + 1)).foldl numS 0) t (i + 1))
      rw [List.take_add_one, hb, Option.toList_some, List.foldl_append]
      exact hs'
    · exact absurd (of_decide_eq_false (hc _ (List.mem_singleton.2 rfl))) (by rw [hOn, hOn]; omega)
  · obtain ⟨L3, hr3⟩ := rn_3 s a1 f1 ((t.take t.length).foldl numS 0) t t.length 0
    refine TG_is X18 mo anyR (by kernel_rfl) hr3 fun g hg hc => ?_
    simp only [List.mem_cons, List.not_mem_nil, or_false] at hg
    rcases hg with rfl | rfl
    · exact absurd (of_decide_eq_true (hc _ (List.mem_singleton.2 rfl))) (by omega)
    · refine ⟨all_nil, fun s' hs' => ⟨by simp, ?_⟩⟩
      rw [outOf_exit]
      simp only [andThen]
      have hs' : normG 4 [0, 5, 12, 13, 14] s' = some (sRN s a1 f1 ((t.take t.length).foldl numS 0) t t.length) := hs'
      refine TG_norm hs' ?_
      obtain ⟨L5, hr5⟩ := rn_4 s a1 f1 ((t.take t.length).foldl numS 0) t t.length
      refine TG_ret X18 mo _ (by kernel_rfl) hr5 fun g hg _ => ?_
      rw [List.mem_singleton] at hg; subst hg
      exact ⟨all_nil, _, _, _, rfl, by rw [List.take_length], rfl, rfl⟩
def spN : List V → List V → Option (List Prop × V × List V)
  | [.str s, .int .i64 x, .bool f], [.int .i64 k] => some ([0 ≤ x ∧ x.toNat ≤ s.length, s.length ≤ 1000000000, 0 ≤ k ∧ k.toNat ≤ 8], .int .i64 (rdN s x.toNat f k.toNat).1, rdC s (rdN s x.toNat f k.toNat).2.1 (rdN s x.toNat f k.toNat).2.2)
  | _, _ => none
theorem one_RN : OneW Tryz.prog 107 (ptrW spN) := by
  refine ptrW_ok mo po gtok (Nat.le_of_ble_eq_true (by kernel_rfl)) Tryz.func107 (code := cdRN) (by kernel_rfl) fun cs args A v cs2 e hA => ⟨?_, ?_⟩
  all_goals
    unfold spN at e
    split at e
    case h_2 => cases e
    rename_i s x f k
    simp only [Option.some.injEq, Prod.mk.injEq] at e; obtain ⟨rfl, rfl, rfl⟩ := e
  · kernel_rfl
  obtain ⟨a1, a2⟩ := hA _ (List.mem_cons_self ..)
  have a3 : s.length ≤ 1000000000 := hA (s.length ≤ 1000000000) (by simp)
  obtain ⟨a4, a5⟩ : 0 ≤ k ∧ k.toNat ≤ 8 := hA (0 ≤ k ∧ k.toNat ≤ 8) (by simp)
  obtain ⟨a, rfl⟩ : ∃ a : Nat, x = Int.ofNat a := ⟨x.toNat, (Int.toNat_of_nonneg a1).symm⟩
  obtain ⟨k, rfl⟩ : ∃ a : Nat, k = Int.ofNat a := ⟨k.toNat, (Int.toNat_of_nonneg a4).symm⟩
  exact tgRN s a k f a2 a3 a5
noncomputable abbrev W19 : CtrW := addW 106 (ptrW spX) (addW 107 (ptrW spN) W18)
theorem W19_ok : CtrWOk Tryz.prog W19 := addW_ok one_RX (addW_ok one_RN W18_ok)
noncomputable abbrev cs19 : CallS := callX Tryz.prog W19 H0 1000 40
noncomputable abbrev X19 : CX Tryz.prog := CX.of mo po W19_ok H0 1000 40
end Go.Proofs.YtfihojpgobmmdaaGreatDoor
namespace Go.Proofs.YtfihojpgobmmdaaGreatDoor
open Go Go.Eng
theorem strI_len (l : List Int) : (strI l).length = l.length := by unfold strI; rw [List.length_map]
end Go.Proofs.YtfihojpgobmmdaaGreatDoor
namespace Go.Proofs.YtfihojpgobmmdaaGreatDoor
open Go Go.Eng
abbrev P3 : V := .ptr (some (3, 0))
abbrev nilS : V := .slc none 0 0 0
def hJ (d : List UInt8) (p : Sto) : Tr O := (memS p).set 7 (some (.cells [.str d]))
end Go.Proofs.YtfihojpgobmmdaaGreatDoor
namespace Go.Proofs.YtfihojpgobmmdaaGreatDoor
open Go Go.Eng
section
variable (len cap : Nat) (b : List UInt8) (fl nx lf : Int) (es rt : List (D × D))
end
end Go.Proofs.YtfihojpgobmmdaaGreatDoor
namespace Go.Proofs.YtfihojpgobmmdaaGreatDoor
open Go Go.Eng
section
variable (len cap : Nat) (b : List UInt8) (fl nx lf : Int) (es rt : List (D × D))
end
end Go.Proofs.YtfihojpgobmmdaaGreatDoor
namespace Go.Proofs.YtfihojpgobmmdaaGreatDoor
open Go Go.Eng
section
variable (len cap : Nat) (b : List UInt8) (fl lf : Int) (es rt : List (D × D)) (lg : List UInt8)
end
section
variable (len cap : Nat) (b : List UInt8) (fl lf : Int) (es rt : List (D × D)) (lg : List UInt8)
end
end Go.Proofs.YtfihojpgobmmdaaGreatDoor
namespace Go.Proofs.YtfihojpgobmmdaaGreatDoor
open Go Go.Eng
inductive Rcd where
  | chunk (d : List UInt8) (rs : List (List UInt8))
  | root (n dd : List UInt8)
def Rcd.body : Rcd → List UInt8
  | .chunk d rs => headB d rs.length ++ rs.flatten
  | .root n dd => put1 2 ++ txtB n ++ txtB dd
def Rcd.bytes (r : Rcd) : List UInt8 := frameB r.body
def Rcd.ok : Rcd → Prop
  | .chunk d rs => d.length ≤ 65536 ∧ rs.length ≤ 1024 ∧ ∀ x ∈ rs, x.length = 32
  | .root n dd => n.length ≤ 1000 ∧ dd.length ≤ 1000
structure LS where
  nx : Int
  es : List (D × D)
  rt : List (D × D)
section
variable (len cap : Nat) (b : List UInt8) (fl lf : Int) (es rt : List (D × D)) (lg : List UInt8)
def Stop (lg : List UInt8) (a : Nat) : Prop := a = lg.length ∨ (rdN lg (rdTx lg a false).2.1 (rdTx lg a false).2.2 4).2.2 = true ∨ (rdN lg (rdTx lg a false).2.1 (rdTx lg a false).2.2 4).1 ≠ IntKind.i64.wrap (crcI (rdTx lg a false).1)
end
end Go.Proofs.YtfihojpgobmmdaaGreatDoor
namespace Go.Proofs.YtfihojpgobmmdaaGreatDoor
open Go Go.Eng
section
variable (len cap : Nat) (b : List UInt8) (fl nx lf : Int) (es rt es1 rt1 : List (D × D))
def hRg (lw : V) (o4 : List (Nat × O)) (fl nx : Int) : Tr O := hL ([(0, .ints .u32 gS), (1, .ints .u32 gR), (3, .cells [lw, .int .i64 fl, .map (some 7), .map (some 8), .int .i64 nx, .bool false, .bool false, .int .i64 lf])] ++ o4 ++ [(5, .mapD none es), (6, .mapD none rt), (7, .mapD none es1), (8, .mapD none rt1)])
end
section
variable (fl nx lf : Int) (es rt : List (D × D))
def lRn (fl nx : Int) : List (Nat × O) := [(0, .ints .u32 gS), (1, .ints .u32 gR), (3, .cells [nilS, .int .i64 fl, .map (some 7), .map (some 8), .int .i64 nx, .bool false, .bool false, .int .i64 lf]), (5, .mapD none es), (6, .mapD none rt), (7, .mapD none []), (8, .mapD none []), (9, .cells [P3]), (10, .cells [.int .i64 0])]
def sRn (fl : Int) : St := stG [(1, .ptr (some (9, 0))), (2, .ptr (some (10, 0)))] (hL (lRn lf es rt fl 0)) 11
end
theorem rw_n1 (fl nx lf : Int) (es rt : List (D × D)) : ∃ L, RunIs Tryz.prog cs19 [] 1000 7 Tryz.f57 [1, 2] (headN 3 cdRv) (startSt [P3] (memS (pN fl nx lf es rt)) 7) L
    [([],
      [],
      .to .normal (stG [(1, .ptr (some (9, 0))), (2, .ptr (some (10, 0)))] (hL [(0, .ints .u32 gS), (1, .ints .u32 gR), (3, .cells [nilS, .int .i64 fl, .map (some 7), .map (some 8), .int .i64 0, .bool false, .bool false, .int .i64 lf]), (5, .mapD none es), (6, .mapD none rt), (7, .map [] 0), (8, .map [] 0), (9, .cells [P3]), (10, .cells [.int .i64 0])]) 11))]
  := RunIs.of (by kernel_rfl) (by kernel_rfl) (by kernel_rfl)
theorem rw_n2 (fl lf : Int) (es rt : List (D × D)) : EndIs Tryz.prog cs19 [] 1000 7 Tryz.f57  (tlRv) (sRn lf es rt fl)
    [([],
      [((0 : Int) ≤ (0 : Int) ∧ (0 : Int) ≤ (0 : Int))],
      .ret (.tup []) (hRg lf es rt [] [] nilS [] 0 0) 9)]
  := ⟨by kernel_rfl, by kernel_rfl, by kernel_rfl⟩
end Go.Proofs.YtfihojpgobmmdaaGreatDoor
namespace Go.Proofs.YtfihojpgobmmdaaGreatDoor
open Go Go.Eng
theorem call57n (fl nx lf : Int) (es rt : List (D × D)) : CallIs Tryz.prog 57 [P3] (memS (pN fl nx lf es rt)) 7 (.tup []) (hRg lf es rt [] [] nilS [] 0 0) 9 := by
  refine callIs_of_TG Tryz.func57 (code := cdRv) (by kernel_rfl) (by kernel_rfl) ?_
  obtain ⟨L1, hr1⟩ := rw_n1 fl nx lf es rt
  refine TG_isN1 3 X19 mo (by kernel_rfl) hr1 all_nil ?_
  refine TG_map [(7, none), (8, none)] (s2 := sRn lf es rt fl) (by kernel_rfl) ?_
  refine TG_end X19 mo _ (by kernel_rfl) (rw_n2 fl lf es rt) fun g hg _ => ?_
  rw [List.mem_singleton] at hg; subst hg
  exact ⟨fm1 ⟨by decide, by decide⟩, _, _, _, rfl, rfl, rfl, rfl⟩
end Go.Proofs.YtfihojpgobmmdaaGreatDoor
namespace Go.Proofs.YtfihojpgobmmdaaGreatDoor
open Go Go.Eng
noncomputable abbrev cdVi : Code := bodyOf Tryz.f77
noncomputable abbrev lpVi : Code := tailN 2 cdVi
abbrev P8 : V := .ptr (some (8, 0))
abbrev P10 : V := .ptr (some (10, 0))
abbrev P11 : V := .ptr (some (11, 0))
abbrev aV (x : List UInt8) : List V := [.str x, P8, P11, P10]
abbrev f78 : V := .fn (.func 78) [] [.ptr (some (7, 0))]
section
variable (len cap : Nat) (b : List UInt8) (fl nx lf : Int) (es rt : List (D × D))
def lV (sn : List (D × D)) : List (Nat × O) := memL (pS len cap b fl nx lf es rt) ++ [(7, .cells [.map (some 6)]), (8, .cells [.map (some 9)]), (9, .mapD none sn), (10, .cells [.fn (.func 77) [] [P8, P11, P10]]), (11, .cells [P3])]
def sRx : St := stG [(5, P8), (6, P10), (10, f78)] (hL (lV len cap b fl nx lf es rt [])) 12
noncomputable def lVx (sn : List (D × D)) : List (Nat × O) := lV len cap b fl nx lf es rt sn ++ [(12, .dfr), (13, .loop true none (sRx len cap b fl nx lf es rt).fr [11] asRd boRd)]
noncomputable def hVx (sn : List (D × D)) : Tr O := hL (lVx len cap b fl nx lf es rt sn)
def lMv (sn : List (D × D)) : List (Nat × O) := [(0, .ints .u32 gS), (1, .ints .u32 gR), (3, .cells (stoC 4 5 6 (pS len cap b fl nx lf es rt))), (4, .buf 5 false b), (5, .mapD none es), (7, .cells [.map (some 6)]), (8, .cells [.map (some 9)]), (9, .mapD none sn), (10, .cells [.fn (.func 77) [] [P8, P11, P10]]), (11, .cells [P3]), (12, .dfr)]
def mV (sn : List (D × D)) : Tr O := hL (lMv len cap b fl nx lf es rt sn)
noncomputable def mVy (sn : List (D × D)) : Tr O := ((hVx len cap b fl nx lf es rt sn).set 6 none).set 13 none
def sVi (sn : List (D × D)) (rs : List (List UInt8)) (i : Nat) : St := stG [(1, P8), (2, P11), (3, P10), (18, .lst false rs.length (strs rs)), (19, .int .i64 (Int.ofNat rs.length)), (20, .int .i64 (Int.ofNat i))] (mV len cap b fl nx lf es rt sn) 15
end
theorem vi_t (len cap : Nat) (b : List UInt8) (fl nx lf : Int) (es rt : List (D × D)) (x : List UInt8) (sn : List (D × D)) : ∃ L, RunIs Tryz.prog cs19 [(9, .give (.bool true))] 1000 15 Tryz.f77 [] (cdVi) (startSt (aV x) (mV len cap b fl nx lf es rt sn) 15) L
    [([],
      [((if false = true then V.tup [D.valV (V.bool false) (lookD (D.str x) sn), V.bool (lookD (D.str x) sn).isSome] else D.valV (V.bool false) (lookD (D.str x) sn)) = V.bool true)],
      .ret (.tup []) (mV len cap b fl nx lf es rt sn) 15)]
  := RunIs.of (by kernel_rfl) (by kernel_rfl) (by kernel_rfl)
theorem vi_f (len cap : Nat) (b : List UInt8) (fl nx lf : Int) (es rt : List (D × D)) (x : List UInt8) (sn : List (D × D)) : ∃ L, RunIs Tryz.prog cs19 [(9, .give (.bool false))] 1000 15 Tryz.f77 [0, 1, 2, 3] (headN 2 cdVi) (startSt (aV x) (mV len cap b fl nx lf es rt sn) 15) L
    [([],
      [((if false = true then V.tup [D.valV (V.bool false) (lookD (D.str x) sn), V.bool (lookD (D.str x) sn).isSome] else D.valV (V.bool false) (lookD (D.str x) sn)) = V.bool false)],
      .to .normal (stG [(0, .str x), (1, P8), (2, P11), (3, P10)] (mV len cap b fl nx lf es rt (updD (.str x) (.bool true) sn)) 15))]
  := RunIs.of (by kernel_rfl) (by kernel_rfl) (by kernel_rfl)
theorem vi_r (len cap : Nat) (b : List UInt8) (fl nx lf : Int) (es rt : List (D × D)) (x : List UInt8) (sn : List (D × D)) (d : List UInt8) (rs : List (List UInt8)) (k : Int) : ∃ L, RunIs Tryz.prog cs19 [(17, .give (entV d rs k)), (20, .give (.int .i64 (Int.ofNat 0)))] 1000 15 Tryz.f77 [1, 2, 3, 18, 19, 20] (seqL lpVi) (stG [(0, .str x), (1, P8), (2, P11), (3, P10)] (mV len cap b fl nx lf es rt sn) 15) L
    [([],
      [((if false = true then V.tup [D.valV (V.agg [V.str ([] : List UInt8), V.slc none 0 0 0, V.int IntKind.i64 (0 : Int)]) (lookD (D.str x) es), V.bool (lookD (D.str x) es).isSome] else D.valV (V.agg [V.str ([] : List UInt8), V.slc none 0 0 0, V.int IntKind.i64 (0 : Int)]) (lookD (D.str x) es)) = entV d rs k), (V.int IntKind.i64 (0 : Int) = V.int IntKind.i64 (0 : Int))],
      .to .normal (stG [(1, .ptr (some (8, 0))), (2, .ptr (some (11, 0))), (3, .ptr (some (10, 0))), (18, .lst false (rs.length) (strs rs)), (19, .int .i64 ((Int.ofNat rs.length))), (20, .int .i64 0)] (hL [(0, .ints .u32 gS), (1, .ints .u32 gR), (3, .cells [.slc (some (4, 0)) len cap 1, .int .i64 fl, .map (some 5), .map (some 6), .int .i64 nx, .bool false, .bool false, .int .i64 lf]), (4, .buf 5 false b), (5, .mapD none es), (7, .cells [.map (some 6)]), (8, .cells [.map (some 9)]), (9, .mapD none sn), (10, .cells [.fn (.func 77) [] [.ptr (some (8, 0)), .ptr (some (11, 0)), .ptr (some (10, 0))]]), (11, .cells [.ptr (some (3, 0))]), (12, .dfr)]) 15))]
  := RunIs.of (by kernel_rfl) (by kernel_rfl) (by kernel_rfl)
theorem vi_b (len cap : Nat) (b : List UInt8) (fl nx lf : Int) (es rt : List (D × D)) (sn sn2 : List (D × D)) (rs : List (List UInt8)) (i : Nat) (p : List UInt8) : ∃ L, RunIs Tryz.prog (pinS cs19 77 (aV p) (mV len cap b fl nx lf es rt sn) 15 (.tup [], mV len cap b fl nx lf es rt sn2, 15)) [(21, .split), (22, .give (.fptr [.str p])), (27, .give (.int .i64 (Int.ofNat (i + 1))))] 1000 15 Tryz.f77 [1, 2, 3, 18, 19, 20] (inner (inner (seqR lpVi))) (sVi len cap b fl nx lf es rt sn rs i) L
    [([((decide (Int.ofNat i < Int.ofNat rs.length)), true)],
      [((0 : Int) ≤ Int.ofNat i ∧ Int.ofNat i < (Int.ofNat rs.length)), ((strs rs).length = rs.length * 1), (V.fptr (cellsAt (strs rs) (i * 1) 1) = V.fptr [D.str p]), (aV p = aV p ∧ mV len cap b fl nx lf es rt sn = mV len cap b fl nx lf es rt sn ∧ 15 = 15), ieq (Int.ofNat i + (1 : Int)) (i + 1)],
      .to .normal (sVi len cap b fl nx lf es rt sn2 rs (i + 1))),
    ([((decide (Int.ofNat i < Int.ofNat rs.length)), false)],
      [],
      .to (.exit 0) (sVi len cap b fl nx lf es rt sn rs i))]
  := RunIs.of (by kernel_rfl) (by kernel_rfl) (by kernel_rfl)
theorem vi_e (len cap : Nat) (b : List UInt8) (fl nx lf : Int) (es rt : List (D × D)) (sn : List (D × D)) (rs : List (List UInt8)) (i : Nat) : ∃ L, FinIs Tryz.prog cs19 [(21, .give (.bool false))] 1000 15 Tryz.f77 [1, 2, 3, 18, 19, 20] 0 (inner (inner (seqR lpVi))) (sVi len cap b fl nx lf es rt sn rs i) L
    [([],
      [(V.bool (decide (Int.ofNat i < Int.ofNat rs.length)) = V.bool false)],
      .ret (.tup []) (mV len cap b fl nx lf es rt sn) 15)]
  := FinIs.of (by kernel_rfl) (by kernel_rfl) (by kernel_rfl)
end Go.Proofs.YtfihojpgobmmdaaGreatDoor
namespace Go.Proofs.YtfihojpgobmmdaaGreatDoor
open Go Go.Eng
def snL (ks : List (List UInt8)) : List (D × D) := ks.map fun k => (.str k, .bool true)
theorem snL_look (x : List UInt8) : ∀ ks : List (List UInt8), lookD (.str x) (snL ks) = if x ∈ ks then some (.bool true) else none
  | [] => rfl
  | k :: ks => by
    have ih := snL_look x ks
    unfold snL at ih ⊢
    rw [List.map_cons, lookD_cons, ih]
    by_cases h : k = x
    · subst h; simp
    · have h1 : ¬ (D.str k = D.str x) := fun e => h (by cases e; rfl)
      have h2 : ¬ x = k := fun e => h e.symm
      simp only [h1, if_false, List.mem_cons, h2, false_or]
theorem snL_upd {x : List UInt8} {ks : List (List UInt8)} (h : x ∉ ks) : updD (.str x) (.bool true) (snL ks) = snL (ks ++ [x]) := by
  rw [upd_len_new _ (by rw [snL_look, if_neg h])]
  unfold snL; rw [List.map_append]; rfl
def refsD (es : List (D × D)) (x : List UInt8) : List (List UInt8) := match lookD (.str x) es with
  | some (.agg [_, .lst _ cs, _]) => strL cs
  | _ => []
theorem refsD_has {es : List (D × D)} {x d : List UInt8} {rs : List (List UInt8)} {k : Int} (h : lookD (.str x) es = some (entD d rs k)) : refsD es x = rs := by
  unfold refsD; rw [h]; exact strL_strs rs
def dfsK (es : List (D × D)) : Nat → List UInt8 → List (List UInt8) → List (List UInt8)
  | 0, _, ks => ks
  | k + 1, x, ks => if x ∈ ks then ks else (refsD es x).foldl (fun a r => dfsK es k r a) (ks ++ [x])
def Ends (es : List (D × D)) : Nat → List UInt8 → Prop
  | 0, _ => False
  | k + 1, x => Has es x ∧ (refsD es x).length ≤ 1000000 ∧ ∀ r ∈ refsD es x, Ends es k r
section
variable (len cap : Nat) (b : List UInt8) (fl nx lf : Int) (es rt : List (D × D))
theorem look_true {x : List UInt8} {ks : List (List UInt8)} (h : x ∈ ks) : (if false = true then V.tup [D.valV (V.bool false) (lookD (D.str x) (snL ks)), V.bool (lookD (D.str x) (snL ks)).isSome] else D.valV (V.bool false) (lookD (D.str x) (snL ks))) = V.bool true := by
  rw [snL_look, if_pos h]; rfl
theorem look_false {x : List UInt8} {ks : List (List UInt8)} (h : x ∉ ks) : (if false = true then V.tup [D.valV (V.bool false) (lookD (D.str x) (snL ks)), V.bool (lookD (D.str x) (snL ks)).isSome] else D.valV (V.bool false) (lookD (D.str x) (snL ks))) = V.bool false := by
  rw [snL_look, if_neg h]; rfl
theorem look_ent {x d : List UInt8} {rs : List (List UInt8)} {k : Int} (h : lookD (.str x) es = some (entD d rs k)) : (if false = true then V.tup [D.valV (V.agg [V.str ([] : List UInt8), V.slc none 0 0 0, V.int IntKind.i64 (0 : Int)]) (lookD (D.str x) es), V.bool (lookD (D.str x) es).isSome] else D.valV (V.agg [V.str ([] : List UInt8), V.slc none 0 0 0, V.int IntKind.i64 (0 : Int)]) (lookD (D.str x) es)) = entV d rs k := by
  rw [h]; rfl
theorem lt77 : 77 < Tryz.prog.funcs.size := Nat.le_of_ble_eq_true (by kernel_rfl)
theorem call77 : ∀ (k : Nat) (x : List UInt8) (ks : List (List UInt8)), Ends es k x → CallIs Tryz.prog 77 (aV x) (mV len cap b fl nx lf es rt (snL ks)) 15 (.tup []) (mV len cap b fl nx lf es rt (snL (dfsK es k x ks))) 15
  | 0, _, _, h => h.elim
  | k + 1, x, ks, h => by
    obtain ⟨⟨d, rs, n, he⟩, hn, hr⟩ := h
    refine callIs_of_TG Tryz.func77 (code := cdVi) (by kernel_rfl) (by kernel_rfl) ?_
    unfold dfsK
    by_cases hx : x ∈ ks
    · rw [if_pos hx]
      obtain ⟨L, hr1⟩ := vi_t len cap b fl nx lf es rt x (snL ks)
      refine TG_ret X19 mo _ (by kernel_rfl) hr1 fun g hg _ => ?_
      rw [List.mem_singleton] at hg; subst hg
      exact ⟨fm1 (look_true hx), _, _, _, rfl, rfl, rfl, rfl⟩
    · rw [if_neg hx]
      obtain ⟨L, hr1⟩ := vi_f len cap b fl nx lf es rt x (snL ks)
      refine TG_isN1 2 X19 mo (by kernel_rfl) hr1 (fm1 (look_false hx)) ?_
      rw [snL_upd hx]
      rw [refsD_has he] at hn hr ⊢
      refine TG_seq' (by kernel_rfl) ?_
      obtain ⟨L2, hr2⟩ := vi_r len cap b fl nx lf es rt x (snL (ks ++ [x])) d rs n
      refine TG_is X19 mo anyR (by kernel_rfl) hr2 fun g hg _ => ?_
      rw [List.mem_singleton] at hg; subst hg
      refine ⟨fm (look_ent es he) (fm1 rfl), fun s' hs' => ?_⟩
      have hs' : normG 15 [1, 2, 3, 18, 19, 20] s' = some (sVi len cap b fl nx lf es rt (snL ((rs.take 0).foldl (fun a r => dfsK es k r a) (ks ++ [x]))) rs 0) := hs'
      refine TG_forN 0 rs.length (fun i => sVi len cap b fl nx lf es rt (snL ((rs.take i).foldl (fun a r => dfsK es k r a) (ks ++ [x]))) rs i) (by kernel_rfl) (by kernel_rfl) (.norm hs') (fun i hi => ?_) ?_
      · have hc := call77 k rs[i] ((rs.take i).foldl (fun a r => dfsK es k r a) (ks ++ [x])) (hr _ (List.getElem_mem hi))
        generalize hK : (rs.take i).foldl (fun a r => dfsK es k r a) (ks ++ [x]) = K at hc
        have hnext : (rs.take (i + 1)).foldl (fun a r => dfsK es k r a) (ks ++ [x]) = dfsK es k rs[i] K := by
          rw [List.take_add_one, List.getElem?_eq_getElem hi, Option.toList_some, List.foldl_append, hK]; rfl
        obtain ⟨L3, hr3⟩ := vi_b len cap b fl nx lf es rt (snL K) (snL (dfsK es k rs[i] K)) rs i rs[i]
        simp only [hnext, hK]
        refine TG_is (X19.pin lt77 hc) mo anyR (by kernel_rfl) hr3 fun g hg hc => ?_
        rcases mem2 hg with rfl | rfl
        · exact ⟨fm ⟨Int.natCast_nonneg _, by rw [hOn, hOn]; omega⟩ (fm (by rw [strs_len, Nat.mul_one]) (fm (congrArg V.fptr (cellsAt_strs (List.getElem?_eq_getElem hi))) (fm ⟨rfl, rfl, rfl⟩ (fm1 (ieq_ok (by rw [hOn]; omega) (by omega)))))), fun s' hs' => .norm hs'⟩
        · exact absurd (of_decide_eq_false (hc _ (List.mem_singleton.2 rfl))) (by rw [hOn, hOn]; omega)
      · obtain ⟨L3, hr3⟩ := vi_e len cap b fl nx lf es rt (snL ((rs.take rs.length).foldl (fun a r => dfsK es k r a) (ks ++ [x]))) rs rs.length
        refine TG_isF 0 X19 mo (fun v h n => v = .tup [] ∧ h = mV len cap b fl nx lf es rt (snL (rs.foldl (fun a r => dfsK es k r a) (ks ++ [x]))) ∧ n = 15) (by kernel_rfl) hr3 (fun s' hs' => ⟨by simp, by rw [outOf_exit]; exact hs'⟩) fun g hg _ => ?_
        rw [List.mem_singleton] at hg; subst hg
        exact ⟨fm1 (congrArg V.bool (decide_eq_false (by omega))), ⟨rfl, by rw [List.take_length], rfl⟩, fun s' hs' => ⟨by simp, hs'⟩⟩
end
end Go.Proofs.YtfihojpgobmmdaaGreatDoor
namespace Go.Proofs.YtfihojpgobmmdaaGreatDoor
open Go Go.Eng
def reachK (es : List (D × D)) (k : Nat) (ds : List (List UInt8)) : List (List UInt8) := ds.foldl (fun a d => dfsK es k d a) []
inductive Rch (es : List (D × D)) : List UInt8 → List UInt8 → Prop where
  | self (x) : Rch es x x
  | step (x y z) : y ∈ refsD es x → Rch es y z → Rch es x z
variable {es : List (D × D)}
def Grow (es : List (D × D)) (ks S : List (List UInt8)) : Prop := (∀ y ∈ ks, y ∈ S) ∧ (∀ y ∈ S, y ∉ ks → ∀ r ∈ refsD es y, r ∈ S) ∧ (ks.Nodup → S.Nodup)
theorem Grow.refl (ks : List (List UInt8)) : Grow es ks ks := ⟨fun _ h => h, fun _ h1 h2 => absurd h1 h2, id⟩
theorem Grow.trans {a b c : List (List UInt8)} (h1 : Grow es a b) (h2 : Grow es b c) : Grow es a c :=
  ⟨fun y h => h2.1 y (h1.1 y h), fun y hy hn r hr => by
    by_cases hb : y ∈ b
    · exact h2.1 r (h1.2.1 y hb hn r hr)
    · exact h2.2.1 y hy hb r hr, fun h => h2.2.2 (h1.2.2 h)⟩
theorem fold_grow {f : List (List UInt8) → List UInt8 → List (List UInt8)} : ∀ (l : List (List UInt8)) (ks : List (List UInt8)), (∀ r ∈ l, ∀ a, Grow es a (f a r) ∧ r ∈ f a r) → Grow es ks (l.foldl f ks) ∧ ∀ r ∈ l, r ∈ l.foldl f ks
  | [], ks, _ => ⟨.refl ks, fun _ h => by cases h⟩
  | x :: l, ks, h => by
    obtain ⟨g1, g2⟩ := h x (by simp) ks
    obtain ⟨g3, g4⟩ := fold_grow l (f ks x) fun r hr => h r (by simp [hr])
    refine ⟨g1.trans g3, fun r hr => ?_⟩
    rcases List.mem_cons.1 hr with rfl | hr
    · exact g3.1 _ g2
    · exact g4 r hr
theorem dfs_grow : ∀ (k : Nat) (x : List UInt8) (ks : List (List UInt8)), Ends es k x → Grow es ks (dfsK es k x ks) ∧ x ∈ dfsK es k x ks
  | 0, _, _, h => h.elim
  | k + 1, x, ks, h => by
    unfold dfsK
    split
    · rename_i hx; exact ⟨.refl ks, hx⟩
    · rename_i hx
      obtain ⟨g1, g2⟩ := fold_grow (es := es) (f := fun a r => dfsK es k r a) (refsD es x) (ks ++ [x]) fun r hr a => dfs_grow k r a (h.2.2 r hr)
      have hxm := g1.1 x (by simp)
      refine ⟨⟨fun y hy => g1.1 y (by simp [hy]), fun y hy hn r hr => ?_, fun hn => g1.2.2 ?_⟩, hxm⟩
      · by_cases e : y = x
        · subst e; exact g2 r hr
        · exact g1.2.1 y hy (by simp [hn, e]) r hr
      · exact List.nodup_append.2 ⟨hn, by simp, fun a ha b hb => by rw [List.mem_singleton] at hb; subst hb; intro e; subst e; exact hx ha⟩
theorem fold_sound {f : List (List UInt8) → List UInt8 → List (List UInt8)} {P : List UInt8 → Prop} : ∀ (l : List (List UInt8)) (ks : List (List UInt8)), (∀ r ∈ l, ∀ a, ∀ y ∈ f a r, y ∈ a ∨ P y) → ∀ y ∈ l.foldl f ks, y ∈ ks ∨ P y
  | [], _, _, y, hy => .inl hy
  | x :: l, ks, h, y, hy => by
    rcases fold_sound l (f ks x) (fun r hr => h r (by simp [hr])) y hy with h1 | h1
    · exact h x (by simp) ks y h1
    · exact .inr h1
theorem dfs_sound : ∀ (k : Nat) (x : List UInt8) (ks : List (List UInt8)), ∀ y ∈ dfsK es k x ks, y ∈ ks ∨ Rch es x y
  | 0, _, _, _, h => .inl h
  | k + 1, x, ks, y, h => by
    unfold dfsK at h
    split at h
    · exact .inl h
    · rcases fold_sound (P := Rch es x) (refsD es x) (ks ++ [x]) (fun r hr a z hz => (dfs_sound k r a z hz).imp id fun q => .step x r z hr q) y h with h1 | h1
      · rcases List.mem_append.1 h1 with h2 | h2
        · exact .inl h2
        · rw [List.mem_singleton] at h2; subst h2; exact .inr (.self _)
      · exact .inr h1
theorem closed_reach {S : List (List UInt8)} (hS : ∀ y ∈ S, ∀ r ∈ refsD es y, r ∈ S) {x y : List UInt8} (h : Rch es x y) : x ∈ S → y ∈ S := by
  induction h with
  | self x => exact id
  | step x y z hr _ ih => exact fun hx => ih (hS x hx y hr)
theorem reachK_mem {k : Nat} {ds : List (List UInt8)} (he : ∀ d ∈ ds, Ends es k d) (y : List UInt8) : y ∈ reachK es k ds ↔ ∃ d ∈ ds, Rch es d y := by
  obtain ⟨g1, g2⟩ := fold_grow (es := es) (f := fun a d => dfsK es k d a) ds [] fun r hr a => dfs_grow k r a (he r hr)
  constructor
  · intro h
    rcases fold_sound (P := fun y => ∃ d ∈ ds, Rch es d y) ds [] (fun r hr a z hz => (dfs_sound k r a z hz).imp id fun q => ⟨r, hr, q⟩) y h with h1 | h1
    · cases h1
    · exact h1
  · rintro ⟨d, hd, hr⟩
    exact closed_reach (fun y hy r hr => g1.2.1 y hy (by simp) r hr) hr (g2 d hd)
theorem reachK_nodup {k : Nat} {ds : List (List UInt8)} (he : ∀ d ∈ ds, Ends es k d) : (reachK es k ds).Nodup :=
  (fold_grow (es := es) (f := fun a d => dfsK es k d a) ds [] fun r hr a => dfs_grow k r a (he r hr)).1.2.2 List.nodup_nil
theorem reachK_perm {k : Nat} {a b : List (List UInt8)} (hp : List.Perm a b) (he : ∀ d ∈ b, Ends es k d) : List.Perm (reachK es k a) (reachK es k b) := by
  have ha : ∀ d ∈ a, Ends es k d := fun d h => he d (hp.mem_iff.1 h)
  refine (List.perm_ext_iff_of_nodup (reachK_nodup ha) (reachK_nodup he)).2 fun y => ?_
  rw [reachK_mem ha, reachK_mem he]
  exact ⟨fun ⟨d, h, r⟩ => ⟨d, hp.mem_iff.1 h, r⟩, fun ⟨d, h, r⟩ => ⟨d, hp.mem_iff.2 h, r⟩⟩
end Go.Proofs.YtfihojpgobmmdaaGreatDoor
namespace Go.Proofs.YtfihojpgobmmdaaGreatDoor
open Go Go.Eng
section
variable (len cap : Nat) (b : List UInt8) (fl nx lf : Int) (es rt : List (D × D))
noncomputable def SVx (sn : List (D × D)) : St := stG [(0, .fn (.yield 13) [] []), (6, .ptr (some (14, 0)))] ((hVx len cap b fl nx lf es rt sn).set 6 none) 15
noncomputable def s4x (sn : List (D × D)) (kn d : List UInt8) : St := { SVx len cap b fl nx lf es rt sn with fr := (((((SVx len cap b fl nx lf es rt sn).fr.set 7 (some (.tup [.bool true, .str kn, .str d]))).set 8 (some (.bool true))).set 9 (some (.tup [.str kn, .str d]))).set 10 (some (.str d))).set 4 (some (.str d)) }
def lR7 : List (Nat × O) := memL (pS len cap b fl nx lf es rt) ++ [(7, .cells [.map (some 6)])]
def hRx (sn : List (D × D)) : Tr O := hL (lR7 len cap b fl nx lf es rt ++ [(8, .mapD none sn)])
end
noncomputable abbrev cs77 (args : List V) (h : Tr O) (n : Nat) (v : V) (h1 : Tr O) (n1 : Nat) : CallS := callX Tryz.prog (pinW 77 args h n v h1 n1 W19) H0 1000 40
theorem vx_1 (len cap : Nat) (b : List UInt8) (fl nx lf : Int) (es rt : List (D × D)) (sn sn2 : List (D × D)) (kn d : List UInt8) : ∃ L, RunIs Tryz.prog (cs77 (aV d) (mVy len cap b fl nx lf es rt sn) 15 (.tup []) (mVy len cap b fl nx lf es rt sn2) 15) [] 1000 15 Tryz.f78 [0, 6] ((mlOf cdVl).rest) (s4x len cap b fl nx lf es rt sn kn d) L
    [([],
      [(aV d = aV d ∧ mVy len cap b fl nx lf es rt sn = mVy len cap b fl nx lf es rt sn ∧ 15 = 15)],
      .to .normal (SVx len cap b fl nx lf es rt sn2))]
  := RunIs.of (by kernel_rfl) (by kernel_rfl) (by kernel_rfl)
theorem rx1_ (len cap : Nat) (b : List UInt8) (fl nx lf : Int) (es rt : List (D × D)) : ∃ L, RunIs Tryz.prog cs19 [] 1000 8 Tryz.f51 [1, 5, 6] (headN 4 cdRd) (startSt [P3, f78] (hL (lR7 len cap b fl nx lf es rt)) 8) L
    [([],
      [],
      .to .normal (stG [(1, .fn (.func 78) [] [.ptr (some (7, 0))]), (5, .ptr (some (8, 0))), (6, .ptr (some (10, 0)))] (hL (memL (pS len cap b fl nx lf es rt) ++ [(7, .cells [.map (some 6)]), (8, .cells [.map (some 9)]), (9, .map [] 0), (10, .cells [.fn (.func 77) [] [.ptr (some (8, 0)), .ptr (some (11, 0)), .ptr (some (10, 0))]]), (11, .cells [.ptr (some (3, 0))])])) 12))]
  := RunIs.of (by kernel_rfl) (by kernel_rfl) (by kernel_rfl)
theorem rx2_ (len cap : Nat) (b : List UInt8) (fl nx lf : Int) (es rt : List (D × D)) : ∃ L, RunIs Tryz.prog cs19 [] 1000 8 Tryz.f51 [5, 6, 10] (seqL (seqL tlRd)) (stG [(1, f78), (5, P8), (6, P10)] (hL (lV len cap b fl nx lf es rt [])) 12) L
    [([],
      [],
      .to .normal (sRx len cap b fl nx lf es rt))]
  := RunIs.of (by kernel_rfl) (by kernel_rfl) (by kernel_rfl)
theorem rx3_ (len cap : Nat) (b : List UInt8) (fl nx lf : Int) (es rt sn : List (D × D)) : EndIs Tryz.prog cs19 [] 1000 8 Tryz.f51  (seqR tlRd) (rEnd (sRx len cap b fl nx lf es rt) (hVx len cap b fl nx lf es rt sn) 14)
    [([],
      [],
      .ret (.map (some 8)) (hRx len cap b fl nx lf es rt sn) 9)]
  := ⟨by kernel_rfl, by kernel_rfl, by kernel_rfl⟩
end Go.Proofs.YtfihojpgobmmdaaGreatDoor
namespace Go.Proofs.YtfihojpgobmmdaaGreatDoor
open Go Go.Eng
def RtS (rt : List (D × D)) : Prop := ∀ e ∈ rt, ∃ n d, e = (.str n, .str d)
def valsOf (rt : List (D × D)) : List (List UInt8) := rt.map fun e => D.strB e.2
section
variable (len cap : Nat) (b : List UInt8) (fl nx lf : Int) (es rt : List (D × D))
set_option maxRecDepth 20000 in
theorem mVy_get (sn : List (D × D)) : ∀ k, (mVy len cap b fl nx lf es rt sn).get k = (mV len cap b fl nx lf es rt sn).get k := by
  have key : ∀ k, k < 15 → (mVy len cap b fl nx lf es rt sn).get k = (mV len cap b fl nx lf es rt sn).get k := by
    intro k hk
    rcases (by omega : k = 0 ∨ k = 1 ∨ k = 2 ∨ k = 3 ∨ k = 4 ∨ k = 5 ∨ k = 6 ∨ k = 7 ∨ k = 8 ∨ k = 9 ∨ k = 10 ∨ k = 11 ∨ k = 12 ∨ k = 13 ∨ k = 14) with rfl | rfl | rfl | rfl | rfl | rfl | rfl | rfl | rfl | rfl | rfl | rfl | rfl | rfl | rfl <;> kernel_rfl
  exact get_two (l := lVx len cap b fl nx lf es rt sn) (l0 := lMv len cap b fl nx lf es rt sn) (a := 6) (b := 13) (N := 15) (by kernel_rfl) (by kernel_rfl) (by decide) (by decide) (by decide) key
theorem call77y (k : Nat) (x : List UInt8) (ks : List (List UInt8)) (h : Ends es k x) : CallIs Tryz.prog 77 (aV x) (mVy len cap b fl nx lf es rt (snL ks)) 15 (.tup []) (mVy len cap b fl nx lf es rt (snL (dfsK es k x ks))) 15 :=
  CallIs.ext (mVy_get len cap b fl nx lf es rt _) (mVy_get len cap b fl nx lf es rt _) (call77 len cap b fl nx lf es rt k x ks h)
abbrev RVx (k : Nat) (v : V) (h : Tr O) (n : Nat) : Prop := ∃ vis, List.Perm vis rt ∧ v = .tup [] ∧ h = hVx len cap b fl nx lf es rt (snL (reachK es k (valsOf vis))) ∧ n = 14
set_option maxRecDepth 20000 in
theorem call78x (k : Nat) (hrt : RtS rt) (he : ∀ d ∈ valsOf rt, Ends es k d) : CallsOne Tryz.prog 78 [.fn (.yield 13) [] [], .ptr (some (7, 0))] (hVx len cap b fl nx lf es rt (snL [])) 14 (RVx len cap b fl nx lf es rt k) := by
  refine callsOne_of_TG mo po Tryz.func78 (code := cdVl) (by kernel_rfl) (by kernel_rfl) ?_
  rw [ml78]
  refine TG_maps (v0 := .map (some 6)) (fr0 := (startSt [.fn (.yield 13) [] [], .ptr (some (7, 0))] (hVx len cap b fl nx lf es rt (snL [])) 14).fr.set 5 (some (.map (some 6)))) (fr1 := ((startSt [.fn (.yield 13) [] [], .ptr (some (7, 0))] (hVx len cap b fl nx lf es rt (snL [])) 14).fr.set 5 (some (.map (some 6)))).set 6 (some (.ptr (some (14, 0))))) (m := 6) (kd := none) (es := rt) mo ml78_ok
    (by kernel_rfl) (by kernel_rfl) (by kernel_rfl) (by kernel_rfl) (Nat.le_of_ble_eq_true rfl) (by kernel_rfl) (fun vis s1 => normG 15 [0, 6] s1 = some (SVx len cap b fl nx lf es rt (snL (reachK es k (valsOf vis))))) (by kernel_rfl) ?_
  rintro vis left s1 hs hp
  refine ⟨[0, 6], _, hs, by kernel_rfl, fun hl => ?_, fun e left' he2 => ?_⟩
  · subst hl
    rw [List.append_nil] at hp
    refine ⟨(SVx len cap b fl nx lf es rt (snL (reachK es k (valsOf vis)))).fr.set 7 (some (.tup [.bool false])), { SVx len cap b fl nx lf es rt (snL (reachK es k (valsOf vis))) with fr := ((SVx len cap b fl nx lf es rt (snL (reachK es k (valsOf vis)))).fr.set 7 (some (.tup [.bool false]))).set 8 (some (.bool false)) }, by kernel_rfl, by kernel_rfl, by kernel_rfl, .inl rfl, .tup [], hVx len cap b fl nx lf es rt (snL (reachK es k (valsOf vis))), 14, by kernel_rfl, vis, hp, rfl, rfl, rfl⟩
  · have hmem : e ∈ rt := hp.mem_iff.1 (List.mem_append_right _ (he2.mem_iff.2 (by simp)))
    obtain ⟨kn, d, rfl⟩ := hrt e hmem
    have hd : Ends es k d := he d (List.mem_map.2 ⟨_, hmem, rfl⟩)
    have hnext : reachK es k (valsOf (vis ++ [(.str kn, .str d)])) = dfsK es k d (reachK es k (valsOf vis)) := by
      unfold reachK valsOf
      rw [List.map_append, List.foldl_append]; rfl
    rw [hnext]
    generalize reachK es k (valsOf vis) = ks at *
    refine ⟨(SVx len cap b fl nx lf es rt (snL ks)).fr.set 7 (some (.tup [.bool true, .str kn, .str d])), { SVx len cap b fl nx lf es rt (snL ks) with fr := ((SVx len cap b fl nx lf es rt (snL ks)).fr.set 7 (some (.tup [.bool true, .str kn, .str d]))).set 8 (some (.bool true)) },
      (((SVx len cap b fl nx lf es rt (snL ks)).fr.set 7 (some (.tup [.bool true, .str kn, .str d]))).set 8 (some (.bool true))).set 9 (some (.tup [.str kn, .str d])), s4x len cap b fl nx lf es rt (snL ks) kn d, by kernel_rfl, by kernel_rfl, by kernel_rfl, by kernel_rfl, by kernel_rfl, by kernel_rfl, by kernel_rfl, by kernel_rfl, ?_⟩
    obtain ⟨L, hr⟩ := vx_1 len cap b fl nx lf es rt (snL ks) (snL (dfsK es k d ks)) kn d
    refine TG_is (CX.of mo po (pinW_ok lt77 (call77y len cap b fl nx lf es rt k d ks hd) W19_ok) H0 1000 40) mo anyR (by kernel_rfl) hr fun g hg _ => ?_
    rw [List.mem_singleton] at hg; subst hg
    exact ⟨fm1 ⟨rfl, rfl, rfl⟩, fun s' hs' => hs'⟩
def canK (es rt : List (D × D)) (k : Nat) : List (List UInt8) := reachK es k (valsOf rt)
set_option maxRecDepth 20000 in
theorem call51x (k : Nat) (hrt : RtS rt) (he : ∀ d ∈ valsOf rt, Ends es k d) : CallIs Tryz.prog 51 [P3, f78] (hL (lR7 len cap b fl nx lf es rt)) 8 (.map (some 8)) (hRx len cap b fl nx lf es rt (snL (canK es rt k))) 9 := by
  refine callIs_of_TG Tryz.func51 (code := cdRd) (by kernel_rfl) (by kernel_rfl) ?_
  obtain ⟨L1, hr1⟩ := rx1_ len cap b fl nx lf es rt
  refine TG_isN1 4 X19 mo (by kernel_rfl) hr1 all_nil ?_
  refine TG_map [(9, none)] (s2 := stG [(1, f78), (5, P8), (6, P10)] (hL (lV len cap b fl nx lf es rt [])) 12) (by kernel_rfl) ?_
  show TG Tryz.prog 8 Tryz.f51.ntmps tlRd _ _
  refine TG_seq' (by kernel_rfl) ?_
  refine TG_seq' (by kernel_rfl) ?_
  obtain ⟨L2, hr2⟩ := rx2_ len cap b fl nx lf es rt
  refine TG_is X19 mo anyR (by kernel_rfl) hr2 fun g hg _ => ?_
  rw [List.mem_singleton] at hg; subst hg
  refine ⟨all_nil, fun s' hs' => TG_norm hs' ?_⟩
  refine TG_block (i := 0) (by kernel_rfl) ?_
  refine TG_rangeN (gf := 78) (lb := [.ptr (some (7, 0))]) (by kernel_rfl) (by kernel_rfl) (by kernel_rfl) (by kernel_rfl) (by kernel_rfl) (call78x len cap b fl nx lf es rt k hrt he) ?_
  rintro v h n ⟨vis, hp, rfl, rfl, rfl⟩
  have hperm : List.Perm (snL (reachK es k (valsOf vis))) (snL (canK es rt k)) := (reachK_perm (hp.map _) he).map _
  generalize snL (reachK es k (valsOf vis)) = sn at hperm ⊢
  generalize snL (canK es rt k) = sn0 at hperm ⊢
  refine ⟨by kernel_rfl, ?_⟩
  show TG Tryz.prog 8 Tryz.f51.ntmps (seqR tlRd) (rEnd (sRx len cap b fl nx lf es rt) (hVx len cap b fl nx lf es rt sn) 14) _
  have hg : (rEnd (sRx len cap b fl nx lf es rt) (hVx len cap b fl nx lf es rt sn) 14).h.get 9 = some (.mapD none sn) := by kernel_rfl
  refine TG_mem (h2 := (rEnd (sRx len cap b fl nx lf es rt) (hVx len cap b fl nx lf es rt sn) 14).h.set 9 (some (.mapD none sn0))) (fun E w g => swap_good (by decide) hg rfl (fun b s _ r => mapD_perm hperm r) g) ?_
  have e : ({ rEnd (sRx len cap b fl nx lf es rt) (hVx len cap b fl nx lf es rt sn) 14 with h := (rEnd (sRx len cap b fl nx lf es rt) (hVx len cap b fl nx lf es rt sn) 14).h.set 9 (some (.mapD none sn0)) } : St) = rEnd (sRx len cap b fl nx lf es rt) (hVx len cap b fl nx lf es rt sn0) 14 := by kernel_rfl
  rw [e]
  refine TG_end X19 mo _ (by kernel_rfl) (rx3_ len cap b fl nx lf es rt sn0) fun g hg _ => ?_
  rw [List.mem_singleton] at hg; subst hg
  exact ⟨all_nil, _, _, _, rfl, rfl, rfl, rfl⟩
end
end Go.Proofs.YtfihojpgobmmdaaGreatDoor
namespace Go.Proofs.YtfihojpgobmmdaaGreatDoor
open Go Go.Eng
end Go.Proofs.YtfihojpgobmmdaaGreatDoor
namespace Go.Proofs.YtfihojpgobmmdaaGreatDoor
open Go Go.Eng
end Go.Proofs.YtfihojpgobmmdaaGreatDoor
namespace Go.Proofs.YtfihojpgobmmdaaGreatDoor
open Go Go.Eng
section
variable (n d : List UInt8) (len cap : Nat) (b : List UInt8) (fl nx lf : Int) (es rt : List (D × D))
end
end Go.Proofs.YtfihojpgobmmdaaGreatDoor
namespace Go.Proofs.YtfihojpgobmmdaaGreatDoor
open Go Go.Eng Go.Shelf Go.RowKit
end Go.Proofs.YtfihojpgobmmdaaGreatDoor
namespace Go.Proofs.YtfihojpgobmmdaaGreatDoor
open Go Go.Eng
end Go.Proofs.YtfihojpgobmmdaaGreatDoor
namespace Go.Proofs.YtfihojpgobmmdaaGreatDoor
open Go Go.Eng
section
variable (f : Bool) (rs : List (List UInt8)) (len cap : Nat) (b : List UInt8) (fl nx lf : Int) (es rt : List (D × D))
end
end Go.Proofs.YtfihojpgobmmdaaGreatDoor
