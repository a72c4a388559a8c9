/- Filter laws anew, part I: the reference's curves, exactly: runs. No conditions. -/
import Derived.Test.YtadejpmecljjpaaFlTwo
import Derived.Test.YtadejpmecljjpaaEngFive
set_option linter.unusedVariables false
set_option linter.unusedSimpArgs false
set_option linter.unusedSectionVars false
namespace Go.Proofs.Ytadejpmecljjpaa
open Go Go.Eng
noncomputable abbrev cdC : Code := bodyOf Try.f53
noncomputable abbrev a1C : Code := seqL (tailN 3 cdC)
noncomputable abbrev lp1C : Code := seqR a1C
noncomputable abbrev bd1C : Code := inner (inner lp1C)
noncomputable abbrev a2C : Code := seqL (tailN 7 cdC)
noncomputable abbrev lp2C : Code := seqR a2C
noncomputable abbrev bd2C : Code := inner (inner lp2C)
noncomputable abbrev endC : Code := seqR (tailN 7 cdC)
def SC5 (ss ps : List Int) (n c k : Nat) (l : List (Nat × V)) : St := stG ([(0, sl n c), (3, .slc (some (2, 0)) k k 1)] ++ l) (hL [(0, .ints .i64 ss), (2, .own .i64 ps)]) 3
theorem c1 (ss : List Int) (n c : Nat) : RunIs Try.prog cs4 [] 1000 2 Try.f53 [0, 3, 4] (headN 3 cdC) (startSt [sl n c] (rH [some (.i64, ss), none]) 2)
    []
    [([],
      [],
      .to .normal (stG [(0, .slc (some (0, 0)) n c 1), (3, .slc (some (2, 0)) 1 1 1), (4, .int .i64 0)] (hL [(0, .ints .i64 (ss)), (2, .cells [.int .i64 0])]) 3))]
  := by unfold RunIs; kernel_rfl
theorem c2 (ss ps : List Int) (n c k : Nat) (sm : Int) : RunIs Try.prog cs4 [] 1000 2 Try.f53 [0, 3, 4, 5] (seqL a1C) (SC5 ss ps n c k [(4, .int .i64 sm)])
    []
    [([],
      [],
      .to .normal (stG [(0, .slc (some (0, 0)) n c 1), (3, .slc (some (2, 0)) k k 1), (4, .int .i64 sm), (5, .int .i64 0)] (hL [(0, .ints .i64 (ss)), (2, .own .i64 (ps))]) 3))]
  := by unfold RunIs; kernel_rfl
theorem c3 (ss ps : List Int) (n c i : Nat) (sm : Int) : RunIs Try.prog cs4 [(12, .split), (15, .give (.bool true)), (18, .give (.int .i64 (Int.ofNat (i + 1))))] 1000 2 Try.f53 [0, 3, 4, 5] (bd1C) (SC5 ss ps n c (i + 1) [(4, .int .i64 sm), (5, .int .i64 (Int.ofNat i))])
    []
    [([((decide (Int.ofNat i < ↑n)), true)],
      [(V.bool (decide (Int.ofNat i < (256 : Int))) = V.bool true), ((0 : Int) ≤ Int.ofNat i ∧ Int.ofNat i < ↑n), ((0 : Nat) + (Int.ofNat i).toNat * (1 : Nat) < ss.length), ((0 : Nat) < i + (1 : Nat)), ((0 : Nat) + (i + (1 : Nat)) * (1 : Nat) ≤ ps.length), ((0 : Nat) < (1 : Nat)), (roomy (i + (1 : Nat) + (1 : Nat)) (1 : Nat) (8 : Nat) = true), (V.int IntKind.i64 (IntKind.i64.wrap (Int.ofNat i + (1 : Int))) = V.int IntKind.i64 (Int.ofNat (i + (1 : Nat))))],
      .to .normal (stG [(0, .slc (some (0, 0)) n c 1), (3, .slc (some (2, 0)) (i + (1 : Nat) + (1 : Nat)) (i + (1 : Nat) + (1 : Nat)) 1), (4, .int .i64 (IntKind.i64.wrap (sm + IntKind.i64.wrap ↑(BitVec.ofInt (64 : Nat) (ss.getD ((0 : Nat) + (Int.ofNat i).toNat * (1 : Nat)) (0 : Int)) &&& BitVec.ofInt (64 : Nat) (65535 : Int)).toNat))), (5, .int .i64 (Int.ofNat (i + (1 : Nat))))] (hL [(0, .ints .i64 (ss)), (2, .own .i64 (List.take ((i + (1 : Nat)) * (1 : Nat)) (List.drop (0 : Nat) ps) ++ [IntKind.i64.wrap (sm + IntKind.i64.wrap ↑(BitVec.ofInt (64 : Nat) (ss.getD ((0 : Nat) + (Int.ofNat i).toNat * (1 : Nat)) (0 : Int)) &&& BitVec.ofInt (64 : Nat) (65535 : Int)).toNat)]))]) 3)),
    ([((decide (Int.ofNat i < ↑n)), false)],
      [],
      .to (.exit 0) (stG [(0, .slc (some (0, 0)) n c 1), (3, .slc (some (2, 0)) (i + (1 : Nat)) (i + (1 : Nat)) 1), (4, .int .i64 sm), (5, .int .i64 (Int.ofNat i))] (hL [(0, .ints .i64 (ss)), (2, .own .i64 (ps))]) 3))]
  := by unfold RunIs; kernel_rfl
theorem c4 (ss ps : List Int) (n c k : Nat) (sm : Int) : RunIs Try.prog cs4 [(32, .split)] 1000 2 Try.f53 [0, 3, 4] (seqL (tailN 4 cdC)) (SC5 ss ps n c k [(4, .int .i64 sm)])
    []
    [([((decide (↑k < (2 : Int))), true)],
      [((0 : Nat) < k), ((0 : Nat) + k * (1 : Nat) ≤ ps.length), ((0 : Nat) < (1 : Nat)), (roomy (k + (1 : Nat)) (1 : Nat) (8 : Nat) = true)],
      .to .normal (stG [(0, .slc (some (0, 0)) n c 1), (3, .slc (some (2, 0)) (k + (1 : Nat)) (k + (1 : Nat)) 1), (4, .int .i64 sm)] (hL [(0, .ints .i64 (ss)), (2, .own .i64 (List.take (k * (1 : Nat)) (List.drop (0 : Nat) ps) ++ [(65535 : Int)]))]) 3)),
    ([((decide (↑k < (2 : Int))), false)],
      [],
      .to .normal (stG [(0, .slc (some (0, 0)) n c 1), (3, .slc (some (2, 0)) k k 1), (4, .int .i64 sm)] (hL [(0, .ints .i64 (ss)), (2, .own .i64 (ps))]) 3))]
  := by unfold RunIs; kernel_rfl
theorem c5 (ss ps : List Int) (n c k : Nat) (sm : Int) : RunIs Try.prog cs4 [(38, .split), (44, .split)] 1000 2 Try.f53 [3, 4, 6] (headN 2 (tailN 5 cdC)) (SC5 ss ps n c k [(4, .int .i64 sm)])
    []
    [([((decide (↑n > (2 : Int))), true), ((IntKind.i64.wrap ↑(BitVec.ofInt (64 : Nat) (ss.getD (0 : Nat) (0 : Int)) &&& BitVec.ofInt (64 : Nat) (7 : Int)).toNat == (3 : Int)), true)],
      [((0 : Int) ≤ (0 : Int) ∧ (0 : Int) < ↑n), ((0 : Nat) < ss.length), ((0 : Int) ≤ (1 : Int) ∧ (1 : Int) < ↑n), ((1 : Nat) < ss.length)],
      .to .normal (stG [(3, .slc (some (2, 0)) k k 1), (4, .int .i64 sm), (6, .int .i64 (IntKind.i64.wrap ↑(BitVec.ofInt (64 : Nat) (ss.getD (1 : Nat) (0 : Int)) &&& BitVec.ofInt (64 : Nat) (4095 : Int)).toNat))] (hL [(0, .ints .i64 (ss)), (2, .own .i64 (ps))]) 3)),
    ([((decide (↑n > (2 : Int))), true), ((IntKind.i64.wrap ↑(BitVec.ofInt (64 : Nat) (ss.getD (0 : Nat) (0 : Int)) &&& BitVec.ofInt (64 : Nat) (7 : Int)).toNat == (3 : Int)), false)],
      [((0 : Int) ≤ (0 : Int) ∧ (0 : Int) < ↑n), ((0 : Nat) < ss.length)],
      .to .normal (stG [(3, .slc (some (2, 0)) k k 1), (4, .int .i64 sm), (6, .int .i64 0)] (hL [(0, .ints .i64 (ss)), (2, .own .i64 (ps))]) 3)),
    ([((decide (↑n > (2 : Int))), false)],
      [],
      .to .normal (stG [(3, .slc (some (2, 0)) k k 1), (4, .int .i64 sm), (6, .int .i64 0)] (hL [(0, .ints .i64 (ss)), (2, .own .i64 (ps))]) 3))]
  := by unfold RunIs; kernel_rfl
def SD5 (ss ps : List Int) (k : Nat) (l : List (Nat × V)) : St := stG ([(3, .slc (some (2, 0)) k k 1)] ++ l) (hL [(0, .ints .i64 ss), (2, .own .i64 ps)]) 3
theorem c6 (ss ps : List Int) (k : Nat) (sm lo : Int) : RunIs Try.prog cs4 [] 1000 2 Try.f53 [3, 4, 6, 7] (seqL a2C) (SD5 ss ps k [(4, .int .i64 sm), (6, .int .i64 lo)])
    []
    [([],
      [],
      .to .normal (stG [(3, .slc (some (2, 0)) k k 1), (4, .int .i64 sm), (6, .int .i64 lo), (7, .int .i64 0)] (hL [(0, .ints .i64 (ss)), (2, .own .i64 (ps))]) 3))]
  := by unfold RunIs; kernel_rfl
theorem c7 (ss ps : List Int) (k i : Nat) (sm lo : Int) : RunIs Try.prog cs4 [(53, .split), (56, .split), (59, .give (.int .i64 (Int.ofNat (i + 1))))] 1000 2 Try.f53 [3, 4, 6, 7] (bd2C) (SD5 ss ps k [(4, .int .i64 sm), (6, .int .i64 lo), (7, .int .i64 (Int.ofNat i))])
    []
    [([((decide (Int.ofNat i < ↑k)), true), ((decide (sm > (0 : Int))), true)],
      [((0 : Int) ≤ Int.ofNat i ∧ Int.ofNat i < ↑k), ((0 : Nat) + (Int.ofNat i).toNat * (1 : Nat) < ps.length), (sm ≠ (0 : Int)), ((0 : Int) ≤ Int.ofNat i ∧ Int.ofNat i < ↑k), ((0 : Nat) + (Int.ofNat i).toNat * (1 : Nat) + (1 : Nat) ≤ ps.length), (V.int IntKind.i64 (IntKind.i64.wrap (Int.ofNat i + (1 : Int))) = V.int IntKind.i64 (Int.ofNat (i + (1 : Nat))))],
      .to .normal (stG [(3, .slc (some (2, 0)) k k 1), (4, .int .i64 sm), (6, .int .i64 lo), (7, .int .i64 (Int.ofNat (i + (1 : Nat))))] (hL [(0, .ints .i64 (ss)), (2, .own .i64 (putI ps ((0 : Nat) + (Int.ofNat i).toNat * (1 : Nat)) [IntKind.i64.wrap (lo + IntKind.i64.wrap ((IntKind.i64.wrap (ps.getD ((0 : Nat) + (Int.ofNat i).toNat * (1 : Nat)) (0 : Int) * IntKind.i64.wrap ((65535 : Int) - lo))).tdiv sm))]))]) 3)),
    ([((decide (Int.ofNat i < ↑k)), true), ((decide (sm > (0 : Int))), false)],
      [],
      .to (.exit 2) (stG [(3, .slc (some (2, 0)) k k 1), (4, .int .i64 sm), (6, .int .i64 lo), (7, .int .i64 (Int.ofNat i))] (hL [(0, .ints .i64 (ss)), (2, .own .i64 (ps))]) 3)),
    ([((decide (Int.ofNat i < ↑k)), false)],
      [],
      .to (.exit 2) (stG [(3, .slc (some (2, 0)) k k 1), (4, .int .i64 sm), (6, .int .i64 lo), (7, .int .i64 (Int.ofNat i))] (hL [(0, .ints .i64 (ss)), (2, .own .i64 (ps))]) 3))]
  := by unfold RunIs; kernel_rfl
theorem c8 (ss ps : List Int) (k : Nat) (sm lo : Int) : RunIs Try.prog cs4 [] 1000 2 Try.f53 [] (endC) (SD5 ss ps k [])
    []
    [([],
      [],
      .ret (.slc (some (2, 0)) k k 1) (hL [(0, .ints .i64 (ss)), (2, .own .i64 (ps))]) 3)]
  := by unfold RunIs; kernel_rfl
theorem c0 (c z : Nat) : RunIs Try.prog cs4 [] 1000 2 Try.f53 [] (cdC) (startSt [.slc none 0 c z] (rH [none, none]) 2)
    []
    [([],
      [],
      .ret (.slc (some (2, 0)) 2 2 1) (hL [(2, .cells [.int .i64 0, .int .i64 65535])]) 3)]
  := by unfold RunIs; kernel_rfl
end Go.Proofs.Ytadejpmecljjpaa
namespace Go.Proofs.Ytadejpmecljjpaa
open Go Go.Eng
def mask (k x : Int) : Int := IntKind.i64.wrap ↑(BitVec.ofInt 64 x &&& BitVec.ofInt 64 k).toNat
theorem mask_le {k : Nat} (hk : k < 1000000) (x : Int) : 0 ≤ mask k x ∧ mask k x ≤ k := by
  have h : (BitVec.ofInt 64 x &&& BitVec.ofInt 64 (k : Int)).toNat ≤ k := by
    rw [BitVec.toNat_and]
    refine Nat.le_trans Nat.and_le_right ?_
    rw [BitVec.toNat_ofInt]
    omega
  unfold mask
  rw [wrap64 (by omega) (by omega)]
  omega
def csum (ss : List Int) : Nat → Int
  | 0 => 0
  | i + 1 => csum ss i + mask 65535 (ss.getD i 0)
theorem csum_le (ss : List Int) : ∀ i, 0 ≤ csum ss i ∧ csum ss i ≤ 65535 * i
  | 0 => by simp [csum]
  | i + 1 => by
    have h1 := csum_le ss i
    have h2 := mask_le (k := 65535) (by omega) (ss.getD i 0)
    simp only [csum]
    have : ((i + 1 : Nat) : Int) = (i : Int) + 1 := by omega
    rw [this]
    have h3 : mask ((65535 : Nat) : Int) (ss.getD i 0) = mask 65535 (ss.getD i 0) := rfl
    rw [h3] at h2
    omega
theorem csum_step (ss : List Int) (i : Nat) : csum ss i ≤ csum ss (i + 1) := by
  have h2 := mask_le (k := 65535) (by omega) (ss.getD i 0)
  have h3 : mask ((65535 : Nat) : Int) (ss.getD i 0) = mask 65535 (ss.getD i 0) := rfl
  simp only [csum]; omega
theorem csum_mono (ss : List Int) {i j : Nat} (h : i ≤ j) : csum ss i ≤ csum ss j := by
  induction h with
  | refl => exact Int.le_refl _
  | step _ ih => exact Int.le_trans ih (csum_step ss _)
def csL (ss : List Int) (k : Nat) : List Int := (List.range k).map (csum ss)
theorem csL_len (ss : List Int) (k : Nat) : (csL ss k).length = k := by simp [csL]
theorem csL_succ (ss : List Int) (k : Nat) : csL ss (k + 1) = csL ss k ++ [csum ss k] := by simp [csL, List.range_succ]
def cv0 (ss : List Int) (n : Nat) : List Int := if n = 0 then [0, 65535] else csL ss (n + 1)
def cvk (n : Nat) : Nat := if n = 0 then 2 else n + 1
theorem cv0_len (ss : List Int) (n : Nat) : (cv0 ss n).length = cvk n := by
  unfold cv0 cvk; split
  · rfl
  · exact csL_len ss _
def lowV (ss : List Int) (n : Nat) : Int := if n > 2 ∧ mask 7 (ss.getD 0 0) = 3 then mask 4095 (ss.getD 1 0) else 0
theorem lowV_le (ss : List Int) (n : Nat) : 0 ≤ lowV ss n ∧ lowV ss n ≤ 4095 := by
  unfold lowV; split
  · exact mask_le (k := 4095) (by omega) _
  · omega
def scl (lo S x : Int) : Int := lo + (x * (65535 - lo)).tdiv S
def curveL (ss : List Int) (n : Nat) : List Int := if csum ss n > 0 then (cv0 ss n).map (scl (lowV ss n) (csum ss n)) else cv0 ss n
theorem curveL_len (ss : List Int) (n : Nat) : (curveL ss n).length = cvk n := by
  unfold curveL; split
  · rw [List.length_map, cv0_len]
  · exact cv0_len ss n
theorem cv0_le (ss : List Int) {n : Nat} (hn : n ≤ 256) : ∀ x ∈ cv0 ss n, 0 ≤ x ∧ x ≤ 16776960 := by
  intro x hx
  unfold cv0 at hx
  split at hx
  · simp only [List.mem_cons, List.not_mem_nil, or_false] at hx; omega
  · simp only [csL, List.mem_map, List.mem_range] at hx
    obtain ⟨j, hj, rfl⟩ := hx
    have := csum_le ss j
    omega
theorem room {k : Nat} (h : k ≤ 1000) : roomy k 1 8 = true := by unfold roomy; exact decide_eq_true ⟨by omega, by omega⟩
theorem loopC1 (ss : List Int) (n c : Nat) (hn : n ≤ 256) (hl : n ≤ ss.length) : TG Try.prog 2 Try.f53.ntmps (inner lp1C) (SC5 ss [0] n c 1 [(4, .int .i64 0), (5, .int .i64 (Int.ofNat 0))]) (fun y s' => y = .exit 0 ∧ normG 2 [0, 3, 4, 5] s' = some (SC5 ss (csL ss (n + 1)) n c (n + 1) [(4, .int .i64 (csum ss n)), (5, .int .i64 (Int.ofNat n))])) := by
  refine TG_loopI X4 mo [0, 3, 4, 5] anyR (fun k s => ∃ i, k = n - i ∧ i ≤ n ∧ s = SC5 ss (csL ss (i + 1)) n c (i + 1) [(4, .int .i64 (csum ss i)), (5, .int .i64 (Int.ofNat i))]) (F := 1000) (fn := Try.f53) (by kernel_rfl) (by kernel_rfl) ?_ n ⟨0, rfl, Nat.zero_le _, rfl⟩
  rintro k s ⟨i, hk, hi, rfl⟩
  refine ⟨_, _, _, c3 ss _ n c i _, fun g hg hc => ?_⟩
  simp only [List.mem_cons, List.not_mem_nil, or_false] at hg
  rcases hg with rfl | rfl
  · have hil : i < n := lt_ofNat (hc _ (List.mem_singleton.2 rfl))
    have e1 : (0 : Nat) + (Int.ofNat i).toNat * (1 : Nat) = i := by show 0 + i * 1 = i; omega
    have hm := mask_le (k := 65535) (by omega) (ss.getD i 0)
    have hs := csum_le ss i
    have e2 : IntKind.i64.wrap (csum ss i + IntKind.i64.wrap ↑(BitVec.ofInt (64 : Nat) (ss.getD ((0 : Nat) + (Int.ofNat i).toNat * (1 : Nat)) (0 : Int)) &&& BitVec.ofInt (64 : Nat) (65535 : Int)).toNat) = csum ss (i + 1) := by
      rw [e1]
      show IntKind.i64.wrap (csum ss i + mask ((65535 : Nat) : Int) (ss.getD i 0)) = _
      rw [wrap64 (by omega) (by omega)]; rfl
    refine ⟨?_, n - (i + 1), by omega, i + 1, rfl, hil, ?_⟩
    · simp only [List.mem_cons, List.not_mem_nil, or_false]
      rintro a (rfl | rfl | rfl | rfl | rfl | rfl | rfl | rfl)
      · have : decide (Int.ofNat i < (256 : Int)) = true := decide_eq_true (by show (i : Int) < 256; omega)
        rw [this]
      · exact in_ofNat hil
      · rw [e1]; omega
      · omega
      · rw [csL_len]; omega
      · omega
      · exact room (by omega)
      · exact up_ok (by omega)
    · rw [e2]
      have : List.take ((i + 1) * 1) (List.drop 0 (csL ss (i + 1))) ++ [csum ss (i + 1)] = csL ss (i + 1 + 1) := by
        rw [csL_succ ss (i + 1), List.drop_zero, List.take_of_length_le (by rw [csL_len]; omega)]
      rw [this]; rfl
  · have hil : n ≤ i := nlt_ofNat (hc _ (List.mem_singleton.2 rfl))
    have : i = n := by omega
    subst this
    exact ⟨by simp, fun s' hs' => ⟨rfl, hs'⟩⟩
def cvAt (ss : List Int) (n i : Nat) : List Int := ((cv0 ss n).take i).map (scl (lowV ss n) (csum ss n)) ++ (cv0 ss n).drop i
theorem cvAt_len (ss : List Int) (n i : Nat) : (cvAt ss n i).length = cvk n := by
  unfold cvAt
  rw [List.length_append, List.length_map, List.length_take, List.length_drop, cv0_len]; omega
theorem cvAt_get (ss : List Int) (n i : Nat) (h : i < cvk n) : (cvAt ss n i).getD i 0 = (cv0 ss n).getD i 0 := by
  unfold cvAt
  have hl : (((cv0 ss n).take i).map (scl (lowV ss n) (csum ss n))).length = i := by rw [List.length_map, List.length_take, cv0_len]; omega
  rw [List.getD_eq_getElem?_getD, List.getElem?_append_right (by omega), hl, Nat.sub_self, List.getElem?_drop, List.getD_eq_getElem?_getD, Nat.add_zero]
theorem cvAt_put (ss : List Int) (n i : Nat) (h : i < cvk n) : putI (cvAt ss n i) i [scl (lowV ss n) (csum ss n) ((cv0 ss n).getD i 0)] = cvAt ss n (i + 1) := by
  have hl : (((cv0 ss n).take i).map (scl (lowV ss n) (csum ss n))).length = i := by rw [List.length_map, List.length_take, cv0_len]; omega
  have hlt : i < (cv0 ss n).length := by rw [cv0_len]; exact h
  unfold putI
  have e1 : (cvAt ss n i).take i = ((cv0 ss n).take i).map (scl (lowV ss n) (csum ss n)) := by
    unfold cvAt; rw [List.take_append_of_le_length (by omega), List.take_of_length_le (by omega)]
  have e2 : (cvAt ss n i).drop (i + 1) = (cv0 ss n).drop (i + 1) := by
    unfold cvAt
    rw [List.drop_append, hl, List.drop_of_length_le (by omega), List.nil_append, List.drop_drop]
    congr 1; omega
  simp only [List.length_cons, List.length_nil, Nat.zero_add]
  rw [e1, e2]
  unfold cvAt
  rw [List.take_add_one, List.getElem?_eq_getElem hlt, List.getD_eq_getElem?_getD, List.getElem?_eq_getElem hlt]
  simp only [List.map_append, Option.toList_some, List.map_cons, List.map_nil, Option.getD_some, List.append_assoc]
theorem loopC2 (ss : List Int) (n : Nat) (hn : n ≤ 256) : TG Try.prog 2 Try.f53.ntmps (inner lp2C) (SD5 ss (cv0 ss n) (cvk n) [(4, .int .i64 (csum ss n)), (6, .int .i64 (lowV ss n)), (7, .int .i64 (Int.ofNat 0))]) (fun y s' => y = .exit 2 ∧ ∃ i, normG 2 [3, 4, 6, 7] s' = some (SD5 ss (curveL ss n) (cvk n) [(4, .int .i64 (csum ss n)), (6, .int .i64 (lowV ss n)), (7, .int .i64 (Int.ofNat i))])) := by
  refine TG_loopI X4 mo [3, 4, 6, 7] anyR (fun k s => ∃ i, k = cvk n - i ∧ i ≤ cvk n ∧ (0 < i → csum ss n > 0) ∧ s = SD5 ss (cvAt ss n i) (cvk n) [(4, .int .i64 (csum ss n)), (6, .int .i64 (lowV ss n)), (7, .int .i64 (Int.ofNat i))]) (F := 1000) (fn := Try.f53) (by kernel_rfl) (by kernel_rfl) ?_ (cvk n) ⟨0, rfl, Nat.zero_le _, fun h => absurd h (by omega), by simp [cvAt]⟩
  rintro k s ⟨i, hk, hi, hpos, rfl⟩
  refine ⟨_, _, _, c7 ss _ (cvk n) i _ _, fun g hg hc => ?_⟩
  have hkb : cvk n ≤ 257 := by unfold cvk; split <;> omega
  simp only [List.mem_cons, List.not_mem_nil, or_false] at hg
  have e1 : (0 : Nat) + (Int.ofNat i).toNat * (1 : Nat) = i := by show 0 + i * 1 = i; omega
  rcases hg with rfl | rfl | rfl
  · have hil : i < cvk n := lt_ofNat (hc _ (List.mem_cons_self ..))
    have hsp : csum ss n > 0 := of_decide_eq_true (hc (decide (csum ss n > 0), true) (List.mem_cons_of_mem _ (List.mem_cons_self ..)))
    have hlow := lowV_le ss n
    have hx : 0 ≤ (cv0 ss n).getD i 0 ∧ (cv0 ss n).getD i 0 ≤ 16776960 := by
      rw [List.getD_eq_getElem?_getD, List.getElem?_eq_getElem (by rw [cv0_len]; exact hil)]
      exact cv0_le ss hn _ (List.getElem_mem _)
    have e2 : IntKind.i64.wrap (lowV ss n + IntKind.i64.wrap ((IntKind.i64.wrap ((cvAt ss n i).getD ((0 : Nat) + (Int.ofNat i).toNat * (1 : Nat)) (0 : Int) * IntKind.i64.wrap ((65535 : Int) - lowV ss n))).tdiv (csum ss n))) = scl (lowV ss n) (csum ss n) ((cv0 ss n).getD i 0) := by
      rw [e1, cvAt_get ss n i hil]
      generalize (cv0 ss n).getD i 0 = x at hx
      generalize lowV ss n = lo at hlow
      generalize csum ss n = S at hsp
      rw [wrap64 (x := 65535 - lo) (by omega) (by omega)]
      have hp : 0 ≤ x * (65535 - lo) ∧ x * (65535 - lo) ≤ 16776960 * 65535 := by
        constructor
        · exact Int.mul_nonneg hx.1 (by omega)
        · exact Int.mul_le_mul hx.2 (by omega) (by omega) (by omega)
      rw [wrap64 (x := x * (65535 - lo)) (by omega) (by omega)]
      have hq : 0 ≤ (x * (65535 - lo)).tdiv S ∧ (x * (65535 - lo)).tdiv S ≤ 16776960 * 65535 := by
        rw [Int.tdiv_eq_ediv_of_nonneg hp.1]
        exact ⟨Int.ediv_nonneg hp.1 (by omega), Int.le_trans (Int.ediv_le_self _ hp.1) hp.2⟩
      rw [wrap64 (x := (x * (65535 - lo)).tdiv S) (by omega) (by omega), wrap64 (by omega) (by omega)]
      rfl
    refine ⟨?_, cvk n - (i + 1), by omega, i + 1, rfl, hil, fun _ => hsp, ?_⟩
    · simp only [List.mem_cons, List.not_mem_nil, or_false]
      rintro a (rfl | rfl | rfl | rfl | rfl | rfl)
      · exact in_ofNat hil
      · rw [e1, cvAt_len]; exact hil
      · omega
      · exact in_ofNat hil
      · rw [e1, cvAt_len]; omega
      · exact up_ok (by omega)
    · rw [e2, e1, cvAt_put ss n i hil]; rfl
  · have hil : i < cvk n := lt_ofNat (hc _ (List.mem_cons_self ..))
    have hsp : ¬ csum ss n > 0 := of_decide_eq_false (hc (decide (csum ss n > 0), false) (List.mem_cons_of_mem _ (List.mem_cons_self ..)))
    have h0 : i = 0 := by
      rcases Nat.eq_zero_or_pos i with h | h
      · exact h
      · exact absurd (hpos h) hsp
    subst h0
    refine ⟨by simp, fun s' hs' => ⟨rfl, 0, ?_⟩⟩
    have : curveL ss n = cvAt ss n 0 := by unfold curveL; rw [if_neg hsp]; simp [cvAt]
    rw [this]; exact hs'
  · have hil : cvk n ≤ i := nlt_ofNat (hc _ (List.mem_singleton.2 rfl))
    have hi2 : i = cvk n := by omega
    subst hi2
    refine ⟨by simp, fun s' hs' => ⟨rfl, cvk n, ?_⟩⟩
    have hsp : csum ss n > 0 := hpos (by unfold cvk; split <;> omega)
    have : curveL ss n = cvAt ss n (cvk n) := by
      unfold curveL; rw [if_pos hsp]
      unfold cvAt
      rw [List.take_of_length_le (by rw [cv0_len]; exact Nat.le_refl _), List.drop_of_length_le (by rw [cv0_len]; exact Nat.le_refl _), List.append_nil]
    rw [this]; exact hs'
def curveH (ss : List Int) (n : Nat) : Tr O := hL [(0, .ints .i64 ss), (2, .own .i64 (curveL ss n))]
theorem tgC (ss : List Int) (n c : Nat) (hn : n ≤ 256) (hl : n ≤ ss.length) : TG Try.prog 2 Try.f53.ntmps cdC (startSt [sl n c] (rH [some (.i64, ss), none]) 2) (RetG Try.prog 2 Try.f53 fun v h m => v = .slc (some (2, 0)) (cvk n) (cvk n) 1 ∧ h = curveH ss n ∧ m = 3) := by
  refine TG_isN1 3 X4 mo (by kernel_rfl) (c1 ss n c) (by simp) ?_
  refine TG_own [(2, .i64)] (s2 := SC5 ss [0] n c 1 [(4, .int .i64 0)]) (by kernel_rfl) ?_
  refine TG_seq' (by kernel_rfl) ?_
  refine TG_isSeq X4 mo anyR (by kernel_rfl) (by kernel_rfl) (c2 ss [0] n c 1 0) fun g hg _ => ?_
  rw [List.mem_singleton] at hg; subst hg
  refine ⟨by simp, fun s' hs' => TG_norm hs' ?_⟩
  refine TG_block (i := 0) (by kernel_rfl) (TG_mono (loopC1 ss n c hn hl) ?_)
  rintro y s' ⟨rfl, hs⟩
  simp only [outOf, if_pos, andThen]
  refine TG_norm hs (TG_norm (live := [0, 3, 4]) (s2 := SC5 ss (csL ss (n + 1)) n c (n + 1) [(4, .int .i64 (csum ss n))]) (by kernel_rfl) ?_)
  refine TG_seq' (by kernel_rfl) ?_
  refine TG_is X4 mo anyR (by kernel_rfl) (c4 ss (csL ss (n + 1)) n c (n + 1) (csum ss n)) fun g hg hc => ?_
  have hmid : ∀ s', normG 2 [0, 3, 4] s' = some (SC5 ss (cv0 ss n) n c (cvk n) [(4, .int .i64 (csum ss n))]) → TG Try.prog 2 Try.f53.ntmps (seqR (tailN 4 cdC)) s' (RetG Try.prog 2 Try.f53 fun v h m => v = .slc (some (2, 0)) (cvk n) (cvk n) 1 ∧ h = curveH ss n ∧ m = 3) := by
    intro s' hs'
    refine TG_norm hs' ?_
    have hlow : ∀ (b : Bool) (x : Int), x = lowV ss n → TG Try.prog 2 Try.f53.ntmps (tailN 2 (tailN 5 cdC)) (SD5 ss (cv0 ss n) (cvk n) [(4, .int .i64 (csum ss n)), (6, .int .i64 x)]) (RetG Try.prog 2 Try.f53 fun v h m => v = .slc (some (2, 0)) (cvk n) (cvk n) 1 ∧ h = curveH ss n ∧ m = 3) := by
      rintro _ x rfl
      refine TG_seq' (by kernel_rfl) ?_
      refine TG_isSeq X4 mo anyR (by kernel_rfl) (by kernel_rfl) (c6 ss (cv0 ss n) (cvk n) (csum ss n) (lowV ss n)) fun g hg _ => ?_
      rw [List.mem_singleton] at hg; subst hg
      refine ⟨by simp, fun s' hs' => TG_norm hs' ?_⟩
      refine TG_block (i := 2) (by kernel_rfl) (TG_mono (loopC2 ss n hn) ?_)
      rintro y s' ⟨rfl, i, hs⟩
      simp only [outOf, if_pos, andThen]
      refine TG_norm hs (TG_norm (live := [3]) (s2 := SD5 ss (curveL ss n) (cvk n) []) (by kernel_rfl) ?_)
      refine TG_ret X4 mo _ (by kernel_rfl) (c8 ss (curveL ss n) (cvk n) 0 0) fun g hg _ => ?_
      rw [List.mem_singleton] at hg; subst hg
      exact ⟨by simp, _, _, _, rfl, rfl, rfl, rfl⟩
    refine TG_isN 2 X4 mo (by kernel_rfl) (c5 ss (cv0 ss n) n c (cvk n) (csum ss n)) fun g hg hc => ?_
    simp only [List.mem_cons, List.not_mem_nil, or_false] at hg
    rcases hg with rfl | rfl | rfl
    · have h2 : n > 2 := by have := of_decide_eq_true (hc _ (List.mem_cons_self ..)); omega
      have h3 : mask 7 (ss.getD 0 0) = 3 := by
        have := hc ((mask 7 (ss.getD 0 0) == 3), true) (List.mem_cons_of_mem _ (List.mem_cons_self ..))
        simpa using this
      refine ⟨?_, _, rfl, hlow true _ ?_⟩
      · simp only [List.mem_cons, List.not_mem_nil, or_false]
        rintro a (rfl | rfl | rfl | rfl) <;> omega
      · unfold lowV; rw [if_pos ⟨h2, h3⟩]; rfl
    · have h2 : n > 2 := by have := of_decide_eq_true (hc _ (List.mem_cons_self ..)); omega
      have h3 : ¬ mask 7 (ss.getD 0 0) = 3 := by
        have := hc ((mask 7 (ss.getD 0 0) == 3), false) (List.mem_cons_of_mem _ (List.mem_cons_self ..))
        simpa using this
      refine ⟨?_, _, rfl, hlow true _ ?_⟩
      · simp only [List.mem_cons, List.not_mem_nil, or_false]
        rintro a (rfl | rfl) <;> omega
      · unfold lowV; rw [if_neg (fun q => h3 q.2)]
    · have h2 : ¬ n > 2 := by have := of_decide_eq_false (hc _ (List.mem_cons_self ..)); omega
      refine ⟨by simp, _, rfl, hlow true _ ?_⟩
      unfold lowV; rw [if_neg (fun q => h2 q.1)]
  simp only [List.mem_cons, List.not_mem_nil, or_false] at hg
  rcases hg with rfl | rfl
  · have h2 : n = 0 := by have := of_decide_eq_true (hc _ (List.mem_cons_self ..)); omega
    subst h2
    refine ⟨?_, fun s' hs' => hmid s' hs'⟩
    simp only [List.mem_cons, List.not_mem_nil, or_false]
    rintro a (rfl | rfl | rfl | rfl)
    · omega
    · rw [csL_len]; omega
    · omega
    · exact room (by omega)
  · have h2 : n ≠ 0 := by have := of_decide_eq_false (hc _ (List.mem_cons_self ..)); omega
    refine ⟨by simp, fun s' hs' => hmid s' ?_⟩
    have e1 : cv0 ss n = csL ss (n + 1) := by unfold cv0; rw [if_neg h2]
    have e2 : cvk n = n + 1 := by unfold cvk; rw [if_neg h2]
    rw [e1, e2]; exact hs'
theorem tgC0 (c z : Nat) : TG Try.prog 2 Try.f53.ntmps cdC (startSt [.slc none 0 c z] (rH [none, none]) 2) (RetG Try.prog 2 Try.f53 fun v h m => v = .slc (some (2, 0)) 2 2 1 ∧ h = hL [(2, .cells [.int .i64 0, .int .i64 65535])] ∧ m = 3) :=
  TG_ret X4 mo _ (by kernel_rfl) (c0 c z) fun g hg _ => by
    rw [List.mem_singleton] at hg; subst hg
    exact ⟨by simp, _, _, _, rfl, rfl, rfl, rfl⟩
def specC (args : List V) (h : Tr O) (n : Nat) : Option (List Prop × V × Tr O × Nat) := match args with
  | [v] => match rowK .i64 1 (softT h) v with
    | some (some _, l, ks) => match emb [] 2 (.slc (some (2, 0)) (cvk l) (cvk l) 1, curveH ks l, 3) h n with
      | some r => some ([l ≤ 256, l ≤ ks.length], r)
      | none => none
    | some (none, _, _) => match emb [] 2 (.slc (some (2, 0)) 2 2 1, hL [(2, .cells [.int .i64 0, .int .i64 65535])], 3) h n with
      | some r => some ([], r)
      | none => none
    | none => none
  | _ => none
theorem one_C : OneW Try.prog 53 specC := by
  refine ⟨Nat.le_of_ble_eq_true (by kernel_rfl), fun args h n A v h' n' e hA E w args' ra g hd hc => ?_⟩
  unfold specC at e
  split at e
  case h_2 => cases e
  rename_i sv
  obtain ⟨y, ys, r0, rs, rfl⟩ := ra
  simp only [vrels] at rs; subst rs
  split at e
  · rename_i a l ks hr
    split at e
    case h_2 => cases e
    rename_i r he
    simp only [Option.some.injEq, Prod.mk.injEq] at e
    obtain ⟨rfl, rfl⟩ := e
    rcases rowK_cases hr with ⟨_, _, _, q, _, _⟩ | ⟨m, o, c, full, rfl, q, hm, hdr⟩
    · cases q
    · simp only [Option.some.injEq] at q; subst q
      have h1 : l ≤ 256 := hA _ (by simp)
      have h2 : l ≤ ks.length := hA (l ≤ ks.length) (by simp)
      obtain ⟨g2, d2, n2⟩ := rows_ok (soft_good g) [some (m, o), none] [some (.i64, ks), none] (Nat.le_of_ble_eq_true rfl) (by
        intro j k ks' hj
        match j, hj with
        | 0, hj => cases hj; exact ⟨m, o, full, rfl, hm, hdr⟩
        | 1, hj => cases hj
        | j + 2, hj => simp at hj)
      exact (calls_of_TG1 mo po Try.func53 (by kernel_rfl) (by kernel_rfl) _ _ _ (tgC ks l c h1 h2) (args := [sl l c]) (E := E.rows [some (m, o), none]) ⟨y, [], rows_slc rfl r0, rfl, rfl⟩ g2 d2).mono fun en w' c => emb_ok (E1 := E.rows [some (m, o), none]) g hd rfl (fun m m' _ q => by cases q) n2 he c
  · rename_i l ks hr
    split at e
    case h_2 => cases e
    rename_i r he
    simp only [Option.some.injEq, Prod.mk.injEq] at e
    obtain ⟨rfl, rfl⟩ := e
    rcases rowK_cases hr with ⟨c, z, rfl, _, rfl, rfl⟩ | ⟨m, o, c, full, rfl, q, hm, hdr⟩
    · obtain ⟨g2, d2, n2⟩ := rows_ok (soft_good g) [none, none] [none, none] (Nat.le_of_ble_eq_true rfl) (by
        intro j k ks' hj
        match j, hj with
        | 0, hj => cases hj
        | 1, hj => cases hj
        | j + 2, hj => simp at hj)
      exact (calls_of_TG1 mo po Try.func53 (by kernel_rfl) (by kernel_rfl) _ _ _ (tgC0 c z) (args := [.slc none 0 c z]) (E := E.rows [none, none]) ⟨y, [], nil_any r0, rfl, rfl⟩ g2 d2).mono fun en w' c => emb_ok (E1 := E.rows [none, none]) g hd rfl (fun m m' _ q => by cases q) n2 he c
    · cases q
  · cases e
noncomputable abbrev W5 : CtrW := addW 53 specC W4
theorem W5_ok : CtrWOk Try.prog W5 := addW_ok one_C W4_ok
noncomputable abbrev cs5 : CallS := callX Try.prog W5 H0 1000 40
noncomputable abbrev X5 : CX Try.prog := CX.of mo po W5_ok H0 1000 40
end Go.Proofs.Ytadejpmecljjpaa
namespace Go.Proofs.Ytadejpmecljjpaa
open Go Go.Eng
noncomputable abbrev cdM : Code := bodyOf Try.f25
noncomputable abbrev a1M : Code := seqL (tailN 2 cdM)
noncomputable abbrev lp1M : Code := seqR a1M
noncomputable abbrev bd1M : Code := inner (inner lp1M)
noncomputable abbrev reM : Code := tailN 3 cdM
def zfO : O := .cells [.int .i64 0, .int .i64 0, .slc none 0 0 0, .int .i64 0, .int .i64 0, .slc none 0 0 0]
def SM (ss xs : List Int) (n c : Nat) (l : List (Nat × V)) : St := stG ([(0, sl n c), (2, .ptr (some (2, 0))), (3, .ptr (some (3, 0)))] ++ l) (hL [(0, .ints .i64 ss), (2, zfO), (3, .own .i64 xs)]) 4
theorem m1 (ss : List Int) (n c : Nat) : RunIs Try.prog cs5 [] 1000 2 Try.f25 [0, 2, 3] (headN 2 cdM) (startSt [sl n c] (rH [some (.i64, ss), none]) 2)
    []
    [([],
      [],
      .to .normal (stG [(0, .slc (some (0, 0)) n c 1), (2, .ptr (some (2, 0))), (3, .ptr (some (3, 0)))] (hL [(0, .ints .i64 (ss)), (2, .cells [.int .i64 0, .int .i64 0, .slc none 0 0 0, .int .i64 0, .int .i64 0, .slc none 0 0 0]), (3, .cells [.int .i64 0, .int .i64 0, .int .i64 0, .int .i64 0, .int .i64 0, .int .i64 0, .int .i64 0, .int .i64 0, .int .i64 0, .int .i64 0, .int .i64 0, .int .i64 0, .int .i64 0, .int .i64 0, .int .i64 0, .int .i64 0, .int .i64 0, .int .i64 0, .int .i64 0, .int .i64 0, .int .i64 0, .int .i64 0, .int .i64 0, .int .i64 0, .int .i64 0, .int .i64 0, .int .i64 0, .int .i64 0, .int .i64 0, .int .i64 0, .int .i64 0, .int .i64 0, .int .i64 0, .int .i64 0, .int .i64 0, .int .i64 0, .int .i64 0, .int .i64 0, .int .i64 0, .int .i64 0, .int .i64 0, .int .i64 0, .int .i64 0, .int .i64 0, .int .i64 0, .int .i64 0, .int .i64 0, .int .i64 0, .int .i64 0, .int .i64 0, .int .i64 0, .int .i64 0, .int .i64 0, .int .i64 0, .int .i64 0, .int .i64 0, .int .i64 0, .int .i64 0, .int .i64 0, .int .i64 0])]) 4))]
  := by unfold RunIs; kernel_rfl
theorem m2 (ss xs : List Int) (n c : Nat) : RunIs Try.prog cs5 [] 1000 2 Try.f25 [0, 2, 3, 4] (seqL a1M) (SM ss xs n c [])
    []
    [([],
      [],
      .to .normal (stG [(0, .slc (some (0, 0)) n c 1), (2, .ptr (some (2, 0))), (3, .ptr (some (3, 0))), (4, .int .i64 0)] (hL [(0, .ints .i64 (ss)), (2, .cells [.int .i64 0, .int .i64 0, .slc none 0 0 0, .int .i64 0, .int .i64 0, .slc none 0 0 0]), (3, .own .i64 (xs))]) 4))]
  := by unfold RunIs; kernel_rfl
theorem m3 (ss xs : List Int) (n c i : Nat) : RunIs Try.prog cs5 [(9, .split), (14, .split), (17, .give (.int .i64 (Int.ofNat (i + 1))))] 1000 2 Try.f25 [0, 2, 3, 4] (bd1M) (SM ss xs n c [(4, .int .i64 (Int.ofNat i))])
    []
    [([((decide (Int.ofNat i < (60 : Int))), true), ((decide (Int.ofNat i < ↑n)), true)],
      [((0 : Int) ≤ Int.ofNat i ∧ Int.ofNat i < ↑n), ((0 : Nat) + (Int.ofNat i).toNat * (1 : Nat) < ss.length), ((0 : Int) ≤ Int.ofNat i ∧ Int.ofNat i < (60 : Int)), ((0 : Nat) + (Int.ofNat i).toNat * (1 : Nat) + (1 : Nat) ≤ xs.length), (V.int IntKind.i64 (IntKind.i64.wrap (Int.ofNat i + (1 : Int))) = V.int IntKind.i64 (Int.ofNat (i + (1 : Nat))))],
      .to .normal (stG [(0, .slc (some (0, 0)) n c 1), (2, .ptr (some (2, 0))), (3, .ptr (some (3, 0))), (4, .int .i64 (Int.ofNat (i + (1 : Nat))))] (hL [(0, .ints .i64 (ss)), (2, .cells [.int .i64 0, .int .i64 0, .slc none 0 0 0, .int .i64 0, .int .i64 0, .slc none 0 0 0]), (3, .own .i64 (putI xs ((0 : Nat) + (Int.ofNat i).toNat * (1 : Nat)) [IntKind.i64.wrap ↑(BitVec.ofInt (64 : Nat) (ss.getD ((0 : Nat) + (Int.ofNat i).toNat * (1 : Nat)) (0 : Int)) &&& BitVec.ofInt (64 : Nat) (65535 : Int)).toNat]))]) 4)),
    ([((decide (Int.ofNat i < (60 : Int))), true), ((decide (Int.ofNat i < ↑n)), false)],
      [],
      .to (.exit 0) (stG [(0, .slc (some (0, 0)) n c 1), (2, .ptr (some (2, 0))), (3, .ptr (some (3, 0))), (4, .int .i64 (Int.ofNat i))] (hL [(0, .ints .i64 (ss)), (2, .cells [.int .i64 0, .int .i64 0, .slc none 0 0 0, .int .i64 0, .int .i64 0, .slc none 0 0 0]), (3, .own .i64 (xs))]) 4)),
    ([((decide (Int.ofNat i < (60 : Int))), false)],
      [],
      .to (.exit 0) (stG [(0, .slc (some (0, 0)) n c 1), (2, .ptr (some (2, 0))), (3, .ptr (some (3, 0))), (4, .int .i64 (Int.ofNat i))] (hL [(0, .ints .i64 (ss)), (2, .cells [.int .i64 0, .int .i64 0, .slc none 0 0 0, .int .i64 0, .int .i64 0, .slc none 0 0 0]), (3, .own .i64 (xs))]) 4))]
  := by unfold RunIs; kernel_rfl
theorem m0 (c z : Nat) : RunIs Try.prog cs5 [] 1000 2 Try.f25 [] (cdM) (startSt [.slc none 0 c z] (rH [none, none]) 2)
    []
    [([],
      [((0 : Int) ≤ (3 : Int) ∧ (3 : Int) < (60 : Int))],
      .ret (.agg [.int .i64 1, .int .i64 0, .slc (some (2, 0)) 1 1 1, .int .i64 1, .int .i64 0, .slc none 0 0 0]) (hL [(2, .cells [.int .i64 (-2)])]) 3)]
  := by unfold RunIs; kernel_rfl
theorem mk1_0 (ss xs : List Int) (n c : Nat) : RunIs Try.prog cs5 [(28, .give (.int .i64 1)), (36, .give (.int .i64 0))] 1000 2 Try.f25 [] (reM) (SM ss xs n c [])
    []
    [([],
      [((0 : Nat) < xs.length), (V.int IntKind.i64 (IntKind.i64.wrap ((1 : Int) + (xs.getD (0 : Nat) (0 : Int)).tmod (8 : Int))) = V.int IntKind.i64 (1 : Int)), ((1 : Nat) < xs.length), (V.int IntKind.i64 ((xs.getD (1 : Nat) (0 : Int)).tmod (3 : Int)) = V.int IntKind.i64 (0 : Int)), ((2 : Nat) < xs.length), ((0 : Int) ≤ (3 : Int) ∧ (3 : Int) < (60 : Int)), ((3 : Nat) < xs.length)],
      .ret (.agg [.int .i64 1, .int .i64 0, .slc (some (2, 0)) 1 1 1, .int .i64 (IntKind.i64.wrap ((1 : Int) + (xs.getD (2 : Nat) (0 : Int)).tmod (20 : Int))), .int .i64 0, .slc none 0 0 0]) (hL [(0, .ints .i64 (ss)), (2, .cells [.int .i64 (IntKind.i64.wrap ((xs.getD (3 : Nat) (0 : Int)).tmod (9 : Int) - (2 : Int)))])]) 3)]
  := by unfold RunIs; kernel_rfl
theorem mk1_1 (ss xs : List Int) (n c : Nat) : RunIs Try.prog cs5 [(28, .give (.int .i64 1)), (36, .give (.int .i64 1))] 1000 2 Try.f25 [] (reM) (SM ss xs n c [])
    []
    [([],
      [((0 : Nat) < xs.length), (V.int IntKind.i64 (IntKind.i64.wrap ((1 : Int) + (xs.getD (0 : Nat) (0 : Int)).tmod (8 : Int))) = V.int IntKind.i64 (1 : Int)), ((1 : Nat) < xs.length), (V.int IntKind.i64 ((xs.getD (1 : Nat) (0 : Int)).tmod (3 : Int)) = V.int IntKind.i64 (1 : Int)), ((2 : Nat) < xs.length), ((0 : Int) ≤ (3 : Int) ∧ (3 : Int) < (60 : Int)), ((3 : Nat) < xs.length), ((0 : Int) ≤ (4 : Int) ∧ (4 : Int) < (60 : Int)), ((4 : Nat) < xs.length), ((0 : Int) ≤ (5 : Int) ∧ (5 : Int) < (60 : Int)), ((5 : Nat) < xs.length), ((0 : Int) ≤ (6 : Int) ∧ (6 : Int) < (60 : Int)), ((6 : Nat) < xs.length), ((0 : Int) ≤ (7 : Int) ∧ (7 : Int) < (60 : Int)), ((7 : Nat) < xs.length), ((0 : Int) ≤ (8 : Int) ∧ (8 : Int) < (60 : Int)), ((8 : Nat) < xs.length), ((0 : Int) ≤ (9 : Int) ∧ (9 : Int) < (60 : Int)), ((9 : Nat) < xs.length), ((0 : Int) ≤ (10 : Int) ∧ (10 : Int) < (60 : Int)), ((10 : Nat) < xs.length), ((0 : Int) ≤ (11 : Int) ∧ (11 : Int) < (60 : Int)), ((11 : Nat) < xs.length)],
      .ret (.agg [.int .i64 1, .int .i64 1, .slc (some (2, 0)) 9 9 1, .int .i64 (IntKind.i64.wrap ((1 : Int) + (xs.getD (2 : Nat) (0 : Int)).tmod (20 : Int))), .int .i64 0, .slc none 0 0 0]) (hL [(0, .ints .i64 (ss)), (2, .cells [.int .i64 (IntKind.i64.wrap ((xs.getD (3 : Nat) (0 : Int)).tmod (9 : Int) - (2 : Int))), .int .i64 (IntKind.i64.wrap ((xs.getD (4 : Nat) (0 : Int)).tmod (9 : Int) - (2 : Int))), .int .i64 (IntKind.i64.wrap ((xs.getD (5 : Nat) (0 : Int)).tmod (9 : Int) - (2 : Int))), .int .i64 (IntKind.i64.wrap ((xs.getD (6 : Nat) (0 : Int)).tmod (9 : Int) - (2 : Int))), .int .i64 (IntKind.i64.wrap ((xs.getD (7 : Nat) (0 : Int)).tmod (9 : Int) - (2 : Int))), .int .i64 (IntKind.i64.wrap ((xs.getD (8 : Nat) (0 : Int)).tmod (9 : Int) - (2 : Int))), .int .i64 (IntKind.i64.wrap ((xs.getD (9 : Nat) (0 : Int)).tmod (9 : Int) - (2 : Int))), .int .i64 (IntKind.i64.wrap ((xs.getD (10 : Nat) (0 : Int)).tmod (9 : Int) - (2 : Int))), .int .i64 (IntKind.i64.wrap ((xs.getD (11 : Nat) (0 : Int)).tmod (9 : Int) - (2 : Int)))])]) 3)]
  := by unfold RunIs; kernel_rfl
theorem mk1_2 (ss xs : List Int) (n c : Nat) : RunIs Try.prog cs5 [(28, .give (.int .i64 1)), (36, .give (.int .i64 2))] 1000 2 Try.f25 [] (reM) (SM ss xs n c [])
    []
    [([],
      [((0 : Nat) < xs.length), (V.int IntKind.i64 (IntKind.i64.wrap ((1 : Int) + (xs.getD (0 : Nat) (0 : Int)).tmod (8 : Int))) = V.int IntKind.i64 (1 : Int)), ((1 : Nat) < xs.length), (V.int IntKind.i64 ((xs.getD (1 : Nat) (0 : Int)).tmod (3 : Int)) = V.int IntKind.i64 (2 : Int)), ((2 : Nat) < xs.length), ((0 : Int) ≤ (3 : Int) ∧ (3 : Int) < (60 : Int)), ((3 : Nat) < xs.length), ((0 : Int) ≤ (4 : Int) ∧ (4 : Int) < (60 : Int)), ((4 : Nat) < xs.length), ((0 : Int) ≤ (5 : Int) ∧ (5 : Int) < (60 : Int)), ((5 : Nat) < xs.length), ((0 : Int) ≤ (6 : Int) ∧ (6 : Int) < (60 : Int)), ((6 : Nat) < xs.length), ((0 : Int) ≤ (7 : Int) ∧ (7 : Int) < (60 : Int)), ((7 : Nat) < xs.length), ((0 : Int) ≤ (8 : Int) ∧ (8 : Int) < (60 : Int)), ((8 : Nat) < xs.length), ((0 : Int) ≤ (9 : Int) ∧ (9 : Int) < (60 : Int)), ((9 : Nat) < xs.length), ((0 : Int) ≤ (10 : Int) ∧ (10 : Int) < (60 : Int)), ((10 : Nat) < xs.length), ((0 : Int) ≤ (11 : Int) ∧ (11 : Int) < (60 : Int)), ((11 : Nat) < xs.length), ((0 : Int) ≤ (12 : Int) ∧ (12 : Int) < (60 : Int)), ((12 : Nat) < xs.length), ((0 : Int) ≤ (13 : Int) ∧ (13 : Int) < (60 : Int)), ((13 : Nat) < xs.length), ((0 : Int) ≤ (14 : Int) ∧ (14 : Int) < (60 : Int)), ((14 : Nat) < xs.length), ((0 : Int) ≤ (15 : Int) ∧ (15 : Int) < (60 : Int)), ((15 : Nat) < xs.length), ((0 : Int) ≤ (16 : Int) ∧ (16 : Int) < (60 : Int)), ((16 : Nat) < xs.length), ((0 : Int) ≤ (17 : Int) ∧ (17 : Int) < (60 : Int)), ((17 : Nat) < xs.length), ((0 : Int) ≤ (18 : Int) ∧ (18 : Int) < (60 : Int)), ((18 : Nat) < xs.length), ((0 : Int) ≤ (19 : Int) ∧ (19 : Int) < (60 : Int)), ((19 : Nat) < xs.length), ((0 : Int) ≤ (20 : Int) ∧ (20 : Int) < (60 : Int)), ((20 : Nat) < xs.length), ((0 : Int) ≤ (21 : Int) ∧ (21 : Int) < (60 : Int)), ((21 : Nat) < xs.length), ((0 : Int) ≤ (22 : Int) ∧ (22 : Int) < (60 : Int)), ((22 : Nat) < xs.length), ((0 : Int) ≤ (23 : Int) ∧ (23 : Int) < (60 : Int)), ((23 : Nat) < xs.length), ((0 : Int) ≤ (24 : Int) ∧ (24 : Int) < (60 : Int)), ((24 : Nat) < xs.length), ((0 : Int) ≤ (25 : Int) ∧ (25 : Int) < (60 : Int)), ((25 : Nat) < xs.length), ((0 : Int) ≤ (26 : Int) ∧ (26 : Int) < (60 : Int)), ((26 : Nat) < xs.length), ((0 : Int) ≤ (27 : Int) ∧ (27 : Int) < (60 : Int)), ((27 : Nat) < xs.length)],
      .ret (.agg [.int .i64 1, .int .i64 2, .slc (some (2, 0)) 25 25 1, .int .i64 (IntKind.i64.wrap ((1 : Int) + (xs.getD (2 : Nat) (0 : Int)).tmod (20 : Int))), .int .i64 0, .slc none 0 0 0]) (hL [(0, .ints .i64 (ss)), (2, .cells [.int .i64 (IntKind.i64.wrap ((xs.getD (3 : Nat) (0 : Int)).tmod (9 : Int) - (2 : Int))), .int .i64 (IntKind.i64.wrap ((xs.getD (4 : Nat) (0 : Int)).tmod (9 : Int) - (2 : Int))), .int .i64 (IntKind.i64.wrap ((xs.getD (5 : Nat) (0 : Int)).tmod (9 : Int) - (2 : Int))), .int .i64 (IntKind.i64.wrap ((xs.getD (6 : Nat) (0 : Int)).tmod (9 : Int) - (2 : Int))), .int .i64 (IntKind.i64.wrap ((xs.getD (7 : Nat) (0 : Int)).tmod (9 : Int) - (2 : Int))), .int .i64 (IntKind.i64.wrap ((xs.getD (8 : Nat) (0 : Int)).tmod (9 : Int) - (2 : Int))), .int .i64 (IntKind.i64.wrap ((xs.getD (9 : Nat) (0 : Int)).tmod (9 : Int) - (2 : Int))), .int .i64 (IntKind.i64.wrap ((xs.getD (10 : Nat) (0 : Int)).tmod (9 : Int) - (2 : Int))), .int .i64 (IntKind.i64.wrap ((xs.getD (11 : Nat) (0 : Int)).tmod (9 : Int) - (2 : Int))), .int .i64 (IntKind.i64.wrap ((xs.getD (12 : Nat) (0 : Int)).tmod (9 : Int) - (2 : Int))), .int .i64 (IntKind.i64.wrap ((xs.getD (13 : Nat) (0 : Int)).tmod (9 : Int) - (2 : Int))), .int .i64 (IntKind.i64.wrap ((xs.getD (14 : Nat) (0 : Int)).tmod (9 : Int) - (2 : Int))), .int .i64 (IntKind.i64.wrap ((xs.getD (15 : Nat) (0 : Int)).tmod (9 : Int) - (2 : Int))), .int .i64 (IntKind.i64.wrap ((xs.getD (16 : Nat) (0 : Int)).tmod (9 : Int) - (2 : Int))), .int .i64 (IntKind.i64.wrap ((xs.getD (17 : Nat) (0 : Int)).tmod (9 : Int) - (2 : Int))), .int .i64 (IntKind.i64.wrap ((xs.getD (18 : Nat) (0 : Int)).tmod (9 : Int) - (2 : Int))), .int .i64 (IntKind.i64.wrap ((xs.getD (19 : Nat) (0 : Int)).tmod (9 : Int) - (2 : Int))), .int .i64 (IntKind.i64.wrap ((xs.getD (20 : Nat) (0 : Int)).tmod (9 : Int) - (2 : Int))), .int .i64 (IntKind.i64.wrap ((xs.getD (21 : Nat) (0 : Int)).tmod (9 : Int) - (2 : Int))), .int .i64 (IntKind.i64.wrap ((xs.getD (22 : Nat) (0 : Int)).tmod (9 : Int) - (2 : Int))), .int .i64 (IntKind.i64.wrap ((xs.getD (23 : Nat) (0 : Int)).tmod (9 : Int) - (2 : Int))), .int .i64 (IntKind.i64.wrap ((xs.getD (24 : Nat) (0 : Int)).tmod (9 : Int) - (2 : Int))), .int .i64 (IntKind.i64.wrap ((xs.getD (25 : Nat) (0 : Int)).tmod (9 : Int) - (2 : Int))), .int .i64 (IntKind.i64.wrap ((xs.getD (26 : Nat) (0 : Int)).tmod (9 : Int) - (2 : Int))), .int .i64 (IntKind.i64.wrap ((xs.getD (27 : Nat) (0 : Int)).tmod (9 : Int) - (2 : Int)))])]) 3)]
  := by unfold RunIs; kernel_rfl
theorem mk2 (ss xs : List Int) (n c : Nat) : RunIs Try.prog cs5 [(28, .give (.int .i64 2))] 1000 2 Try.f25 [] (reM) (SM ss xs n c [])
    []
    [([],
      [((0 : Nat) < xs.length), (V.int IntKind.i64 (IntKind.i64.wrap ((1 : Int) + (xs.getD (0 : Nat) (0 : Int)).tmod (8 : Int))) = V.int IntKind.i64 (2 : Int)), ((1 : Nat) < xs.length)],
      .ret (.agg [.int .i64 2, .int .i64 ((xs.getD (1 : Nat) (0 : Int)).tmod (4 : Int)), .slc none 0 0 0, .int .i64 0, .int .i64 0, .slc none 0 0 0]) (hL [(0, .ints .i64 (ss))]) 2)]
  := by unfold RunIs; kernel_rfl
theorem mk3 (ss xs : List Int) (n c : Nat) : RunIs Try.prog cs5 [(28, .give (.int .i64 3))] 1000 2 Try.f25 [] (reM) (SM ss xs n c [])
    []
    [([],
      [((0 : Nat) < xs.length), (V.int IntKind.i64 (IntKind.i64.wrap ((1 : Int) + (xs.getD (0 : Nat) (0 : Int)).tmod (8 : Int))) = V.int IntKind.i64 (3 : Int)), ((1 : Nat) < xs.length)],
      .ret (.agg [.int .i64 3, .int .i64 ((xs.getD (1 : Nat) (0 : Int)).tmod (4 : Int)), .slc none 0 0 0, .int .i64 0, .int .i64 0, .slc none 0 0 0]) (hL [(0, .ints .i64 (ss))]) 2)]
  := by unfold RunIs; kernel_rfl
theorem mk4 (ss xs : List Int) (n c : Nat) : RunIs Try.prog cs5 [(28, .give (.int .i64 4))] 1000 2 Try.f25 [] (reM) (SM ss xs n c [])
    []
    [([],
      [((0 : Nat) < xs.length), (V.int IntKind.i64 (IntKind.i64.wrap ((1 : Int) + (xs.getD (0 : Nat) (0 : Int)).tmod (8 : Int))) = V.int IntKind.i64 (4 : Int)), ((1 : Nat) < xs.length)],
      .ret (.agg [.int .i64 4, .int .i64 ((xs.getD (1 : Nat) (0 : Int)).tmod (4 : Int)), .slc none 0 0 0, .int .i64 0, .int .i64 0, .slc none 0 0 0]) (hL [(0, .ints .i64 (ss))]) 2)]
  := by unfold RunIs; kernel_rfl
theorem mk6 (ss xs : List Int) (n c : Nat) : RunIs Try.prog cs5 [(28, .give (.int .i64 6))] 1000 2 Try.f25 [] (reM) (SM ss xs n c [])
    []
    [([],
      [((0 : Nat) < xs.length), (V.int IntKind.i64 (IntKind.i64.wrap ((1 : Int) + (xs.getD (0 : Nat) (0 : Int)).tmod (8 : Int))) = V.int IntKind.i64 (6 : Int))],
      .ret (.agg [.int .i64 6, .int .i64 0, .slc none 0 0 0, .int .i64 0, .int .i64 0, .slc none 0 0 0]) (hL [(0, .ints .i64 (ss))]) 2)]
  := by unfold RunIs; kernel_rfl
theorem mk7 (ss xs : List Int) (n c : Nat) : RunIs Try.prog cs5 [(28, .give (.int .i64 7))] 1000 2 Try.f25 [] (reM) (SM ss xs n c [])
    []
    [([],
      [((0 : Nat) < xs.length), (V.int IntKind.i64 (IntKind.i64.wrap ((1 : Int) + (xs.getD (0 : Nat) (0 : Int)).tmod (8 : Int))) = V.int IntKind.i64 (7 : Int)), ((1 : Nat) < xs.length)],
      .ret (.agg [.int .i64 7, .int .i64 0, .slc none 0 0 0, .int .i64 0, .int .i64 ((xs.getD (1 : Nat) (0 : Int)).tmod (257 : Int)), .slc none 0 0 0]) (hL [(0, .ints .i64 (ss))]) 2)]
  := by unfold RunIs; kernel_rfl
theorem mk8 (ss xs : List Int) (n c : Nat) : RunIs Try.prog cs5 [(28, .give (.int .i64 8))] 1000 2 Try.f25 [] (reM) (SM ss xs n c [])
    []
    [([],
      [((0 : Nat) < xs.length), (V.int IntKind.i64 (IntKind.i64.wrap ((1 : Int) + (xs.getD (0 : Nat) (0 : Int)).tmod (8 : Int))) = V.int IntKind.i64 (8 : Int)), ((1 : Nat) < xs.length), ((2 : Nat) < xs.length)],
      .ret (.agg [.int .i64 8, .int .i64 (IntKind.i64.wrap ((xs.getD (1 : Nat) (0 : Int)).tmod (7 : Int) - (3 : Int))), .slc none 0 0 0, .int .i64 0, .int .i64 (IntKind.i64.wrap ((xs.getD (2 : Nat) (0 : Int)).tmod (7 : Int) - (3 : Int))), .slc none 0 0 0]) (hL [(0, .ints .i64 (ss))]) 2)]
  := by unfold RunIs; kernel_rfl
theorem mk5 (ss xs : List Int) (n c : Nat) : RunIs Try.prog cs5 [(28, .give (.int .i64 5)), (80, .give (.int .i64 1))] 1000 2 Try.f25 [] (reM) (SM ss xs n c [])
    []
    [([],
      [((0 : Nat) < xs.length), (V.int IntKind.i64 (IntKind.i64.wrap ((1 : Int) + (xs.getD (0 : Nat) (0 : Int)).tmod (8 : Int))) = V.int IntKind.i64 (5 : Int)), (V.int IntKind.i64 (if ↑n < (1 : Int) then ↑n else (1 : Int)) = V.int IntKind.i64 (1 : Int)), ((0 : Int) ≤ (1 : Int) ∧ (1 : Int) ≤ ↑n), (n - (1 : Nat) ≤ (256 : Nat)), (n - (1 : Nat) ≤ (List.drop (1 : Nat) ss).length)],
      .ret (.agg [.int .i64 5, .int .i64 0, .slc none 0 0 0, .int .i64 0, .int .i64 0, .slc (some (2, 0)) (cvk (n - (1 : Nat))) (cvk (n - (1 : Nat))) 1]) (hL [(0, .ints .i64 (ss)), (2, .own .i64 (curveL (List.drop (1 : Nat) ss) (n - (1 : Nat))))]) 3)]
  := by unfold RunIs; kernel_rfl
end Go.Proofs.Ytadejpmecljjpaa
namespace Go.Proofs.Ytadejpmecljjpaa
open Go Go.Eng
def madeAt (ss : List Int) (n i : Nat) : List Int := (List.range 60).map fun j => if j < i then mask 65535 (ss.getD j 0) else 0
def madeX (ss : List Int) (n : Nat) : List Int := madeAt ss n n
theorem madeAt_len (ss : List Int) (n i : Nat) : (madeAt ss n i).length = 60 := by simp [madeAt]
theorem putI_set (xs : List Int) (i : Nat) (v : Int) (h : i < xs.length) : putI xs i [v] = xs.set i v := by
  unfold putI
  rw [List.set_eq_take_append_cons_drop, if_pos h]
  rfl
theorem madeAt_get (ss : List Int) (n i j : Nat) : (madeAt ss n i)[j]? = if j < 60 then some (if j < i then mask 65535 (ss.getD j 0) else 0) else none := by
  unfold madeAt
  rw [List.getElem?_map]
  by_cases h : j < 60
  · rw [List.getElem?_eq_getElem (by simpa using h), List.getElem_range, if_pos h]; rfl
  · rw [List.getElem?_eq_none (by simpa using h), if_neg h]; rfl
theorem madeAt_put (ss : List Int) (n i : Nat) (hi : i < 60) : putI (madeAt ss n i) i [mask 65535 (ss.getD i 0)] = madeAt ss n (i + 1) := by
  rw [putI_set _ _ _ (by rw [madeAt_len]; exact hi)]
  apply List.ext_getElem?
  intro j
  rw [List.getElem?_set, madeAt_get, madeAt_get, madeAt_len]
  by_cases h : i = j
  · subst h; rw [if_pos rfl, if_pos hi, if_pos hi, if_pos (by omega)]
  · rw [if_neg h]
    by_cases h60 : j < 60
    · rw [if_pos h60, if_pos h60]
      by_cases hj : j < i
      · rw [if_pos hj, if_pos (by omega)]
      · rw [if_neg hj, if_neg (by omega)]
    · rw [if_neg h60, if_neg h60]
theorem loopM (ss : List Int) (n c : Nat) (hn : n ≤ 60) (hl : n ≤ ss.length) : TG Try.prog 2 Try.f25.ntmps (inner lp1M) (SM ss (madeAt ss n 0) n c [(4, .int .i64 (Int.ofNat 0))]) (fun y s' => y = .exit 0 ∧ ∃ i, normG 2 [0, 2, 3, 4] s' = some (SM ss (madeX ss n) n c [(4, .int .i64 (Int.ofNat i))])) := by
  refine TG_loopI X5 mo [0, 2, 3, 4] anyR (fun k s => ∃ i, k = n - i ∧ i ≤ n ∧ s = SM ss (madeAt ss n i) n c [(4, .int .i64 (Int.ofNat i))]) (F := 1000) (fn := Try.f25) (by kernel_rfl) (by kernel_rfl) ?_ n ⟨0, rfl, Nat.zero_le _, rfl⟩
  rintro k s ⟨i, hk, hi, rfl⟩
  refine ⟨_, _, _, m3 ss _ n c i, fun g hg hc => ?_⟩
  have e1 : (0 : Nat) + (Int.ofNat i).toNat * (1 : Nat) = i := by show 0 + i * 1 = i; omega
  simp only [List.mem_cons, List.not_mem_nil, or_false] at hg
  rcases hg with rfl | rfl | rfl
  · have hil : i < n := lt_ofNat (hc (decide (Int.ofNat i < Int.ofNat n), true) (List.mem_cons_of_mem _ (List.mem_cons_self ..)))
    refine ⟨?_, n - (i + 1), by omega, i + 1, rfl, hil, ?_⟩
    · simp only [List.mem_cons, List.not_mem_nil, or_false]
      rintro a (rfl | rfl | rfl | rfl | rfl)
      · exact in_ofNat hil
      · rw [e1]; omega
      · exact in_ofNat (l := 60) (by omega)
      · rw [e1, madeAt_len]; omega
      · exact up_ok (by omega)
    · have e2 : IntKind.i64.wrap ↑(BitVec.ofInt (64 : Nat) (ss.getD ((0 : Nat) + (Int.ofNat i).toNat * (1 : Nat)) (0 : Int)) &&& BitVec.ofInt (64 : Nat) (65535 : Int)).toNat = mask 65535 (ss.getD i 0) := by rw [e1]; rfl
      rw [e2, e1, madeAt_put ss n i (by omega)]; rfl
  · have hil : n ≤ i := nlt_ofNat (hc (decide (Int.ofNat i < Int.ofNat n), false) (List.mem_cons_of_mem _ (List.mem_cons_self ..)))
    have : i = n := by omega
    subst this
    exact ⟨by simp, fun s' hs' => ⟨rfl, i, hs'⟩⟩
  · have hil : 60 ≤ i := nlt_ofNat (l := 60) (hc (decide (Int.ofNat i < Int.ofNat 60), false) (List.mem_singleton.2 rfl))
    have : i = n := by omega
    subst this
    exact ⟨by simp, fun s' hs' => ⟨rfl, i, hs'⟩⟩
inductive Sh where
  | conv0 | conv1 | conv2 | rank (k : Nat) | tone | inv | thr | off
  deriving DecidableEq
def rem8 (xs : List Int) : Int := (xs.getD 0 0).tmod 8
def hasSh (xs : List Int) : Sh → Prop
  | .conv0 => rem8 xs = 0 ∧ (xs.getD 1 0).tmod 3 = 0
  | .conv1 => rem8 xs = 0 ∧ (xs.getD 1 0).tmod 3 = 1
  | .conv2 => rem8 xs = 0 ∧ (xs.getD 1 0).tmod 3 = 2
  | .rank k => rem8 xs + 1 = (k : Int) ∧ (k = 2 ∨ k = 3 ∨ k = 4)
  | .tone => rem8 xs = 4
  | .inv => rem8 xs = 5
  | .thr => rem8 xs = 6
  | .off => rem8 xs = 7
def kern (xs : List Int) (m : Nat) : List Int := (List.range m).map fun i => IntKind.i64.wrap ((xs.getD (3 + i) 0).tmod 9 - 2)
def divi (xs : List Int) : Int := IntKind.i64.wrap (1 + (xs.getD 2 0).tmod 20)
def shK : Sh → Int
  | .conv0 => 1 | .conv1 => 1 | .conv2 => 1
  | .rank k => (k : Int) | .tone => 5 | .inv => 6 | .thr => 7 | .off => 8
def shR (xs : List Int) : Sh → Int
  | .conv0 => 0 | .conv1 => 1 | .conv2 => 2
  | .rank _ => (xs.getD 1 0).tmod 4
  | .off => IntKind.i64.wrap ((xs.getD 1 0).tmod 7 - 3)
  | _ => 0
def shD (xs : List Int) : Sh → Int
  | .conv0 => divi xs | .conv1 => divi xs | .conv2 => divi xs
  | _ => 0
def shV (xs : List Int) : Sh → Int
  | .thr => (xs.getD 1 0).tmod 257
  | .off => IntKind.i64.wrap ((xs.getD 2 0).tmod 7 - 3)
  | _ => 0
def shF (xs : List Int) (ss : List Int) (n : Nat) (sh : Sh) : V × Tr O × Nat := match sh with
  | .conv0 => (FV 1 0 (.slc (some (2, 0)) 1 1 1) (divi xs) 0 (.slc none 0 0 0), hL [(0, .ints .i64 ss), (2, .own .i64 (kern xs 1))], 3)
  | .conv1 => (FV 1 1 (.slc (some (2, 0)) 9 9 1) (divi xs) 0 (.slc none 0 0 0), hL [(0, .ints .i64 ss), (2, .own .i64 (kern xs 9))], 3)
  | .conv2 => (FV 1 2 (.slc (some (2, 0)) 25 25 1) (divi xs) 0 (.slc none 0 0 0), hL [(0, .ints .i64 ss), (2, .own .i64 (kern xs 25))], 3)
  | .tone => (FV 5 0 (.slc none 0 0 0) 0 0 (.slc (some (2, 0)) (cvk (n - 1)) (cvk (n - 1)) 1), hL [(0, .ints .i64 ss), (2, .own .i64 (curveL (ss.drop 1) (n - 1)))], 3)
  | sh => (FV (shK sh) (shR xs sh) (.slc none 0 0 0) 0 (shV xs sh) (.slc none 0 0 0), hL [(0, .ints .i64 ss)], 2)
theorem sixty {m : Nat} (ss : List Int) (n : Nat) (h : Nat.blt m 60 = true) : m < (madeX ss n).length := by
  have : (madeX ss n).length = 60 := madeAt_len ss n n
  rw [this]; exact Nat.le_of_ble_eq_true h
theorem kindIs {xs : List Int} {k : Int} (h : rem8 xs = k - 1) (hk : 0 ≤ k ∧ k < 100) : V.int IntKind.i64 (IntKind.i64.wrap ((1 : Int) + (xs.getD (0 : Nat) (0 : Int)).tmod (8 : Int))) = V.int IntKind.i64 k := by
  have h : (xs.getD 0 0).tmod 8 = k - 1 := h
  rw [h, wrap64 (by omega) (by omega)]
  congr 1; omega
def madeOk (ss : List Int) (n : Nat) (sh : Sh) : Prop := n ≤ 60 ∧ n ≤ ss.length ∧ hasSh (madeX ss n) sh
theorem tone_pos {ss : List Int} {n : Nat} (h : hasSh (madeX ss n) .tone) : 0 < n := by
  rcases Nat.eq_zero_or_pos n with q | q
  · subst q
    have h : ((madeX ss 0).getD 0 0).tmod 8 = 4 := h
    have e : (madeX ss 0).getD 0 0 = 0 := by
      rw [List.getD_eq_getElem?_getD]
      unfold madeX
      rw [madeAt_get]; rfl
    rw [e] at h; cases h
  · exact q
theorem tgM (ss : List Int) (n c : Nat) (sh : Sh) (hok : madeOk ss n sh) : TG Try.prog 2 Try.f25.ntmps cdM (startSt [sl n c] (rH [some (.i64, ss), none]) 2) (RetG Try.prog 2 Try.f25 fun v h m => ∃ h0, ownO h0 (match sh with | .conv0 => [(2, .i64)] | .conv1 => [(2, .i64)] | .conv2 => [(2, .i64)] | _ => []) = some (shF (madeX ss n) ss n sh).2.1 ∧ v = (shF (madeX ss n) ss n sh).1 ∧ h = h0 ∧ m = (shF (madeX ss n) ss n sh).2.2) := by
  obtain ⟨hn, hl, hsh⟩ := hok
  refine TG_isN1 2 X5 mo (by kernel_rfl) (m1 ss n c) (by simp) ?_
  refine TG_own [(3, .i64)] (s2 := SM ss (madeAt ss n 0) n c []) (by kernel_rfl) ?_
  refine TG_seq' (by kernel_rfl) ?_
  refine TG_isSeq X5 mo anyR (by kernel_rfl) (by kernel_rfl) (m2 ss (madeAt ss n 0) n c) fun g hg _ => ?_
  rw [List.mem_singleton] at hg; subst hg
  refine ⟨by simp, fun s' hs' => TG_norm hs' ?_⟩
  refine TG_block (i := 0) (by kernel_rfl) (TG_mono (loopM ss n c hn hl) ?_)
  rintro y s' ⟨rfl, i, hs⟩
  simp only [outOf, if_pos, andThen]
  refine TG_norm hs (TG_norm (live := [0, 2, 3]) (s2 := SM ss (madeX ss n) n c []) (by kernel_rfl) ?_)
  have nums : ∀ {a b x : Int}, decide (a ≤ x ∧ x < b) = true → a ≤ x ∧ x < b := fun h => of_decide_eq_true h
  cases sh with
  | conv0 =>
    refine TG_ret X5 mo _ (by kernel_rfl) (mk1_0 ss (madeX ss n) n c) fun g hg _ => ?_
    rw [List.mem_singleton] at hg; subst hg
    refine ⟨?_, _, _, _, rfl, _, rfl, rfl, rfl, rfl⟩
    have hk := kindIs (k := 1) hsh.1 (by omega)
    have hr : V.int IntKind.i64 (((madeX ss n).getD (1 : Nat) (0 : Int)).tmod (3 : Int)) = V.int IntKind.i64 (0 : Int) := congrArg _ hsh.2
    (repeat' first | exact List.forall_mem_nil _ | refine List.forall_mem_cons.2 ⟨?_, ?_⟩) <;> first | exact sixty ss n rfl | exact hk | exact hr | exact nums rfl
  | conv1 =>
    refine TG_ret X5 mo _ (by kernel_rfl) (mk1_1 ss (madeX ss n) n c) fun g hg _ => ?_
    rw [List.mem_singleton] at hg; subst hg
    refine ⟨?_, _, _, _, rfl, _, rfl, rfl, rfl, rfl⟩
    have hk := kindIs (k := 1) hsh.1 (by omega)
    have hr : V.int IntKind.i64 (((madeX ss n).getD (1 : Nat) (0 : Int)).tmod (3 : Int)) = V.int IntKind.i64 (1 : Int) := congrArg _ hsh.2
    (repeat' first | exact List.forall_mem_nil _ | refine List.forall_mem_cons.2 ⟨?_, ?_⟩) <;> first | exact sixty ss n rfl | exact hk | exact hr | exact nums rfl
  | conv2 =>
    refine TG_ret X5 mo _ (by kernel_rfl) (mk1_2 ss (madeX ss n) n c) fun g hg _ => ?_
    rw [List.mem_singleton] at hg; subst hg
    refine ⟨?_, _, _, _, rfl, _, rfl, rfl, rfl, rfl⟩
    have hk := kindIs (k := 1) hsh.1 (by omega)
    have hr : V.int IntKind.i64 (((madeX ss n).getD (1 : Nat) (0 : Int)).tmod (3 : Int)) = V.int IntKind.i64 (2 : Int) := congrArg _ hsh.2
    (repeat' first | exact List.forall_mem_nil _ | refine List.forall_mem_cons.2 ⟨?_, ?_⟩) <;> first | exact sixty ss n rfl | exact hk | exact hr | exact nums rfl
  | rank k =>
    obtain ⟨h1, h2⟩ := hsh
    rcases h2 with rfl | rfl | rfl
    · refine TG_ret X5 mo _ (by kernel_rfl) (mk2 ss (madeX ss n) n c) fun g hg _ => ?_
      rw [List.mem_singleton] at hg; subst hg
      refine ⟨?_, _, _, _, rfl, _, rfl, rfl, rfl, rfl⟩
      have hk := kindIs (xs := madeX ss n) (k := 2) (by omega) (by omega)
      (repeat' first | exact List.forall_mem_nil _ | refine List.forall_mem_cons.2 ⟨?_, ?_⟩) <;> first | exact sixty ss n rfl | exact hk
    · refine TG_ret X5 mo _ (by kernel_rfl) (mk3 ss (madeX ss n) n c) fun g hg _ => ?_
      rw [List.mem_singleton] at hg; subst hg
      refine ⟨?_, _, _, _, rfl, _, rfl, rfl, rfl, rfl⟩
      have hk := kindIs (xs := madeX ss n) (k := 3) (by omega) (by omega)
      (repeat' first | exact List.forall_mem_nil _ | refine List.forall_mem_cons.2 ⟨?_, ?_⟩) <;> first | exact sixty ss n rfl | exact hk
    · refine TG_ret X5 mo _ (by kernel_rfl) (mk4 ss (madeX ss n) n c) fun g hg _ => ?_
      rw [List.mem_singleton] at hg; subst hg
      refine ⟨?_, _, _, _, rfl, _, rfl, rfl, rfl, rfl⟩
      have hk := kindIs (xs := madeX ss n) (k := 4) (by omega) (by omega)
      (repeat' first | exact List.forall_mem_nil _ | refine List.forall_mem_cons.2 ⟨?_, ?_⟩) <;> first | exact sixty ss n rfl | exact hk
  | tone =>
    have hp := tone_pos hsh
    refine TG_ret X5 mo _ (by kernel_rfl) (mk5 ss (madeX ss n) n c) fun g hg _ => ?_
    rw [List.mem_singleton] at hg; subst hg
    refine ⟨?_, _, _, _, rfl, _, rfl, rfl, rfl, rfl⟩
    have hk := kindIs (xs := madeX ss n) (k := 5) hsh (by omega)
    (repeat' first | exact List.forall_mem_nil _ | refine List.forall_mem_cons.2 ⟨?_, ?_⟩) <;> first | exact sixty ss n rfl | exact hk | (rw [List.length_drop]; omega) | omega | (rw [if_neg (by omega)])
  | inv =>
    refine TG_ret X5 mo _ (by kernel_rfl) (mk6 ss (madeX ss n) n c) fun g hg _ => ?_
    rw [List.mem_singleton] at hg; subst hg
    refine ⟨?_, _, _, _, rfl, _, rfl, rfl, rfl, rfl⟩
    have hk := kindIs (xs := madeX ss n) (k := 6) hsh (by omega)
    (repeat' first | exact List.forall_mem_nil _ | refine List.forall_mem_cons.2 ⟨?_, ?_⟩) <;> first | exact sixty ss n rfl | exact hk
  | thr =>
    refine TG_ret X5 mo _ (by kernel_rfl) (mk7 ss (madeX ss n) n c) fun g hg _ => ?_
    rw [List.mem_singleton] at hg; subst hg
    refine ⟨?_, _, _, _, rfl, _, rfl, rfl, rfl, rfl⟩
    have hk := kindIs (xs := madeX ss n) (k := 7) hsh (by omega)
    (repeat' first | exact List.forall_mem_nil _ | refine List.forall_mem_cons.2 ⟨?_, ?_⟩) <;> first | exact sixty ss n rfl | exact hk
  | off =>
    refine TG_ret X5 mo _ (by kernel_rfl) (mk8 ss (madeX ss n) n c) fun g hg _ => ?_
    rw [List.mem_singleton] at hg; subst hg
    refine ⟨?_, _, _, _, rfl, _, rfl, rfl, rfl, rfl⟩
    have hk := kindIs (xs := madeX ss n) (k := 8) hsh (by omega)
    (repeat' first | exact List.forall_mem_nil _ | refine List.forall_mem_cons.2 ⟨?_, ?_⟩) <;> first | exact sixty ss n rfl | exact hk
def specM (sh : Sh) (args : List V) (h : Tr O) (n : Nat) : Option (List Prop × V × Tr O × Nat) := match args with
  | [v] => match rowK .i64 1 (softT h) v with
    | some (some _, l, ks) => match emb [] 2 (shF (madeX ks l) ks l sh) h n with
      | some r => some ([madeOk ks l sh], r)
      | none => none
    | some (none, _, _) => match sh with
      | .conv0 => match emb [] 2 (shF (madeX [] 0) [] 0 .conv0) h n with
        | some r => some ([], r)
        | none => none
      | _ => none
    | none => none
  | _ => none
theorem tgM0 (c z : Nat) : TG Try.prog 2 Try.f25.ntmps cdM (startSt [.slc none 0 c z] (rH [none, none]) 2) (RetG Try.prog 2 Try.f25 fun v h m => v = (shF (madeX [] 0) [] 0 .conv0).1 ∧ h = hL [(2, .cells [.int .i64 (-2)])] ∧ m = 3) :=
  TG_ret X5 mo _ (by kernel_rfl) (m0 c z) fun g hg _ => by
    rw [List.mem_singleton] at hg; subst hg
    refine ⟨?_, _, _, _, rfl, by kernel_rfl, rfl, rfl⟩
    refine List.forall_mem_cons.2 ⟨by omega, List.forall_mem_nil _⟩
theorem emb0 (h : Tr O) (n : Nat) : emb [] 2 (shF (madeX [] 0) [] 0 .conv0) h n = emb [] 2 ((shF (madeX [] 0) [] 0 .conv0).1, hL [(2, .own .i64 [-2])], 3) h n := by
  have e : kern (madeX [] 0) 1 = [-2] := by decide +kernel
  have e1 : shF (madeX [] 0) [] 0 .conv0 = ((shF (madeX [] 0) [] 0 .conv0).1, hL [(0, .ints .i64 []), (2, .own .i64 [-2])], 3) := by
    show (_, hL [(0, .ints .i64 []), (2, .own .i64 (kern (madeX [] 0) 1))], 3) = _
    rw [e]; rfl
  rw [e1]
  rfl
theorem one_M (sh : Sh) : OneW Try.prog 25 (specM sh) := by
  refine ⟨Nat.le_of_ble_eq_true (by kernel_rfl), fun args h n A v h' n' e hA E w args' ra g hd hc => ?_⟩
  unfold specM at e
  split at e
  case h_2 => cases e
  rename_i sv
  obtain ⟨y, ys, r0, rs, rfl⟩ := ra
  simp only [vrels] at rs; subst rs
  split at e
  · rename_i a l ks hr
    split at e
    case h_2 => cases e
    rename_i r he
    simp only [Option.some.injEq, Prod.mk.injEq] at e
    obtain ⟨rfl, rfl⟩ := e
    rcases rowK_cases hr with ⟨_, _, _, q, _, _⟩ | ⟨m, o, c, full, rfl, q, hm, hdr⟩
    · cases q
    · simp only [Option.some.injEq] at q; subst q
      have h1 : madeOk ks l sh := hA _ (by simp)
      obtain ⟨g2, d2, n2⟩ := rows_ok (soft_good g) [some (m, o), none] [some (.i64, ks), none] (Nat.le_of_ble_eq_true rfl) (by
        intro j k ks' hj
        match j, hj with
        | 0, hj => cases hj; exact ⟨m, o, full, rfl, hm, hdr⟩
        | 1, hj => cases hj
        | j + 2, hj => simp at hj)
      refine (calls_of_TG mo po Try.func25 (by kernel_rfl) (by kernel_rfl) _ (tgM ks l c sh h1) (args := [sl l c]) (E := E.rows [some (m, o), none]) ⟨y, [], rows_slc rfl r0, rfl, rfl⟩ g2 d2).mono fun en w' ⟨v1, h1, n1, ⟨h0, q1, q2, q3, q4⟩, c⟩ => ?_
      subst q2 q3 q4
      exact emb_ok (E1 := E.rows [some (m, o), none]) g hd rfl (fun m m' _ q => by cases q) n2 he (cpost_own _ q1 c)
  · rename_i l ks hr
    split at e
    case h_2 => cases e
    split at e
    case h_2 => cases e
    rename_i r he
    simp only [Option.some.injEq, Prod.mk.injEq] at e
    obtain ⟨rfl, rfl⟩ := e
    rcases rowK_cases hr with ⟨c, z, rfl, _, rfl, rfl⟩ | ⟨m, o, c, full, rfl, q, hm, hdr⟩
    · obtain ⟨g2, d2, n2⟩ := rows_ok (soft_good g) [none, none] [none, none] (Nat.le_of_ble_eq_true rfl) (by
        intro j k ks' hj
        match j, hj with
        | 0, hj => cases hj
        | 1, hj => cases hj
        | j + 2, hj => simp at hj)
      rw [emb0] at he
      exact (calls_of_TG1 mo po Try.func25 (by kernel_rfl) (by kernel_rfl) _ _ _ (tgM0 c z) (args := [.slc none 0 c z]) (E := E.rows [none, none]) ⟨y, [], nil_any r0, rfl, rfl⟩ g2 d2).mono fun en w' c => emb_ok (E1 := E.rows [none, none]) g hd rfl (fun m m' _ q => by cases q) n2 he (cpost_own [(2, .i64)] (by kernel_rfl) c)
    · cases q
  · cases e
end Go.Proofs.Ytadejpmecljjpaa
namespace Go.Proofs.Ytadejpmecljjpaa
open Go Go.Eng
theorem cv0_get (ss : List Int) (m j : Nat) (h : j < cvk m) : at0 (cv0 ss m) j = if m = 0 then (if j = 0 then 0 else 65535) else csum ss j := by
  unfold at0 cv0
  by_cases hm : m = 0
  · subst hm
    have : j = 0 ∨ j = 1 := by unfold cvk at h; simp at h; omega
    rcases this with rfl | rfl <;> rfl
  · rw [if_neg hm, if_neg hm]
    unfold cvk at h
    rw [if_neg hm] at h
    unfold csL
    rw [List.getD_eq_getElem?_getD, List.getElem?_map, List.getElem?_eq_getElem (by simpa using h), List.getElem_range]
    rfl
theorem curveL_get (ss : List Int) (m j : Nat) (h : j < cvk m) : at0 (curveL ss m) j = if csum ss m > 0 then scl (lowV ss m) (csum ss m) (at0 (cv0 ss m) j) else at0 (cv0 ss m) j := by
  unfold curveL
  split
  · unfold at0
    rw [List.getD_eq_getElem?_getD, List.getElem?_map, List.getElem?_eq_getElem (by rw [cv0_len]; exact h), List.getD_eq_getElem?_getD, List.getElem?_eq_getElem (by rw [cv0_len]; exact h)]
    rfl
  · rfl
theorem scl_mono {lo S x y : Int} (hlo : 0 ≤ lo ∧ lo ≤ 4095) (hS : S > 0) (hx : 0 ≤ x) (hxy : x ≤ y) : scl lo S x ≤ scl lo S y := by
  unfold scl
  have h1 : 0 ≤ x * (65535 - lo) := Int.mul_nonneg hx (by omega)
  have h2 : x * (65535 - lo) ≤ y * (65535 - lo) := Int.mul_le_mul_of_nonneg_right hxy (by omega)
  rw [Int.tdiv_eq_ediv_of_nonneg h1, Int.tdiv_eq_ediv_of_nonneg (Int.le_trans h1 h2)]
  have := Int.ediv_le_ediv hS h2
  omega
theorem curve_valid (ss : List Int) (m : Nat) (hm : m ≤ 256) : curveB (cvk m) (curveL ss m) = true := by
  have hk : 2 ≤ cvk m ∧ cvk m ≤ 257 := by unfold cvk; split <;> omega
  have hlo := lowV_le ss m
  have c0 : ∀ j, j < cvk m → 0 ≤ at0 (cv0 ss m) j := by
    intro j hj
    rw [cv0_get ss m j hj]
    split
    · split <;> omega
    · exact (csum_le ss j).1
  have cm : ∀ i j, i ≤ j → j < cvk m → at0 (cv0 ss m) i ≤ at0 (cv0 ss m) j := by
    intro i j hij hj
    rw [cv0_get ss m i (by omega), cv0_get ss m j hj]
    split
    · split <;> split <;> omega
    · exact csum_mono ss hij
  have g0 : ∀ j, j < cvk m → 0 ≤ at0 (curveL ss m) j := by
    intro j hj
    rw [curveL_get ss m j hj]
    split
    · rename_i hS
      have h1 : 0 ≤ at0 (cv0 ss m) j * (65535 - lowV ss m) := Int.mul_nonneg (c0 j hj) (by omega)
      unfold scl
      rw [Int.tdiv_eq_ediv_of_nonneg h1]
      have := Int.ediv_nonneg h1 (Int.le_of_lt hS)
      omega
    · exact c0 j hj
  have hlast : at0 (curveL ss m) (cvk m - 1) ≤ 65535 := by
    rw [curveL_get ss m _ (by omega), cv0_get ss m _ (by omega)]
    by_cases h0 : m = 0
    · subst h0
      rw [if_neg (by show ¬ (0 : Int) > 0; omega), if_pos rfl]
      split <;> omega
    · rw [if_neg h0]
      have e : cvk m - 1 = m := by unfold cvk; rw [if_neg h0]; omega
      rw [e]
      split
      · rename_i hS
        unfold scl
        rw [Int.mul_tdiv_cancel_left _ (by omega)]
        omega
      · have := csum_le ss m; omega
  have hsort : sortedB (curveL ss m) (cvk m) = true := by
    unfold sortedB
    refine decide_eq_true fun j hj h0 => ?_
    rw [curveL_get ss m (j - 1) (by omega), curveL_get ss m j hj]
    have h1 := cm (j - 1) j (by omega) hj
    split
    · rename_i hS
      exact scl_mono hlo hS (c0 _ (by omega)) h1
    · exact h1
  have hp : pointsB (Int.ofNat (cvk m)) = true := by
    unfold pointsB
    have a1 : decide (Int.ofNat (cvk m) ≥ 2) = true := decide_eq_true (by show ((cvk m : Nat) : Int) ≥ 2; omega)
    have a2 : decide (Int.ofNat (cvk m) ≤ 257) = true := decide_eq_true (by show ((cvk m : Nat) : Int) ≤ 257; omega)
    rw [a1, a2]; rfl
  unfold curveB
  have b1 : decide (at0 (curveL ss m) 0 ≥ 0) = true := decide_eq_true (g0 0 (by omega))
  have b2 : decide (at0 (curveL ss m) (cvk m - 1) ≤ 65535) = true := decide_eq_true hlast
  rw [hp, hsort, b1, b2]; rfl
theorem madeX_get (ss : List Int) (n j : Nat) : 0 ≤ (madeX ss n).getD j 0 ∧ (madeX ss n).getD j 0 ≤ 65535 := by
  unfold madeX
  rw [List.getD_eq_getElem?_getD, madeAt_get]
  split
  · simp only [Option.getD_some]
    split
    · exact mask_le (k := 65535) (by omega) _
    · omega
  · simp
theorem tmod_range {x m : Int} (hx : 0 ≤ x) (hm : 0 < m) : 0 ≤ x.tmod m ∧ x.tmod m < m := by
  rw [Int.tmod_eq_emod_of_nonneg hx]
  exact ⟨Int.emod_nonneg _ (by omega), Int.emod_lt_of_pos _ hm⟩
inductive Cl where
  | o | K | C
def clOf : Sh → Cl
  | .conv0 => .K | .conv1 => .K | .conv2 => .K | .tone => .C | _ => .o
def shL (n : Nat) : Sh → Nat
  | .conv0 => 1 | .conv1 => 9 | .conv2 => 25 | .tone => cvk (n - 1) | _ => 0
def shRow (xs ss : List Int) (n : Nat) : Sh → List Int
  | .conv0 => kern xs 1 | .conv1 => kern xs 9 | .conv2 => kern xs 25 | .tone => curveL (ss.drop 1) (n - 1) | _ => []
def glK (cl : Cl) (l : Nat) : Nat := match cl with | .K => l | _ => 0
def glC (cl : Cl) (l : Nat) : Nat := match cl with | .C => l | _ => 0
def grK (cl : Cl) (gs : List Int) : List Int := match cl with | .K => gs | _ => []
def grC (cl : Cl) (gs : List Int) : List Int := match cl with | .C => gs | _ => []
theorem kern_at (ss : List Int) (n m i : Nat) (h : i < m) : at0 (kern (madeX ss n) m) i = ((madeX ss n).getD (3 + i) 0).tmod 9 - 2 := by
  unfold at0 kern
  rw [List.getD_eq_getElem?_getD, List.getElem?_map, List.getElem?_eq_getElem (by simpa using h), List.getElem_range]
  simp only [Option.map_some, Option.getD_some]
  have := tmod_range (m := 9) (madeX_get ss n (3 + i)).1 (by omega)
  rw [wrap64 (by omega) (by omega)]
theorem kern_bad (ss : List Int) (n m : Nat) : badB m (kern (madeX ss n) m) = false := by
  refine badB_none fun i hi => ?_
  rw [kern_at ss n m i hi]
  have := tmod_range (m := 9) (madeX_get ss n (3 + i)).1 (by omega)
  unfold outB within
  have a1 : decide (-4096 ≤ ((madeX ss n).getD (3 + i) 0).tmod 9 - 2) = true := decide_eq_true (by omega)
  have a2 : decide (((madeX ss n).getD (3 + i) 0).tmod 9 - 2 ≤ 4096) = true := decide_eq_true (by omega)
  rw [a1, a2]; rfl
theorem divi_le (ss : List Int) (n : Nat) : 1 ≤ divi (madeX ss n) ∧ divi (madeX ss n) ≤ 20 := by
  unfold divi
  have := tmod_range (m := 20) (madeX_get ss n 2).1 (by omega)
  rw [wrap64 (by omega) (by omega)]; omega
theorem within_ok {x a b : Int} (h1 : a ≤ x) (h2 : x ≤ b) : within x a b = true := by unfold within; rw [decide_eq_true h1, decide_eq_true h2]; rfl
theorem made_valid {ss : List Int} {n : Nat} {sh : Sh} (h : madeOk ss n sh) : validB (shK sh) (shR (madeX ss n) sh) (shD (madeX ss n) sh) (shV (madeX ss n) sh) (glK (clOf sh) (shL n sh)) (grK (clOf sh) (shRow (madeX ss n) ss n sh)) (glC (clOf sh) (shL n sh)) (grC (clOf sh) (shRow (madeX ss n) ss n sh)) = true := by
  obtain ⟨hn, hl, hs⟩ := h
  have hd := divi_le ss n
  have conv : ∀ r : Int, ∀ m : Nat, 0 ≤ r → r ≤ 3 → Int.ofNat m = w64 (side r * side r) → validB 1 r (divi (madeX ss n)) 0 m (kern (madeX ss n) m) 0 [] = true := by
    intro r m h1 h2 h3
    have e1 := within_ok h1 h2
    have e2 := within_ok (x := divi (madeX ss n)) (a := 1) (b := 1048576) hd.1 (by omega)
    have e3 := kern_bad ss n m
    simp [validB, chV, chB, e1, e2, e3, ← h3, nat0]
  cases sh with
  | conv0 => exact conv 0 1 (by omega) (by omega) (by decide)
  | conv1 => exact conv 1 9 (by omega) (by omega) (by decide)
  | conv2 => exact conv 2 25 (by omega) (by omega) (by decide)
  | rank k =>
    have hr := tmod_range (m := 4) (madeX_get ss n 1).1 (by omega)
    have e1 := within_ok (x := ((madeX ss n).getD 1 0).tmod 4) (a := 0) (b := 3) hr.1 (by omega)
    show validB (k : Int) (((madeX ss n).getD 1 0).tmod 4) 0 0 0 [] 0 [] = true
    generalize ((madeX ss n).getD 1 0).tmod 4 = x at e1
    rcases hs.2 with rfl | rfl | rfl <;> simp [validB, chV, chB, e1, nat0]
  | tone =>
    have e1 := curve_valid (ss.drop 1) (n - 1) (by omega)
    show validB 5 0 0 0 0 [] (cvk (n - 1)) (curveL (ss.drop 1) (n - 1)) = true
    generalize curveL (ss.drop 1) (n - 1) = y at e1
    simp [validB, chV, chB, nat0, e1]
  | inv => simp [validB, chV, chB, shK, shR, shD, shV, glK, glC, clOf, nat0]
  | thr =>
    have hr := tmod_range (m := 257) (madeX_get ss n 1).1 (by omega)
    have e1 := within_ok (x := ((madeX ss n).getD 1 0).tmod 257) (a := 0) (b := 256) hr.1 (by omega)
    show validB 7 0 0 (((madeX ss n).getD 1 0).tmod 257) 0 [] 0 [] = true
    generalize ((madeX ss n).getD 1 0).tmod 257 = x at e1
    simp [validB, chV, chB, nat0, e1]
  | off =>
    have hr := tmod_range (m := 7) (madeX_get ss n 1).1 (by omega)
    have hv := tmod_range (m := 7) (madeX_get ss n 2).1 (by omega)
    have w1 : IntKind.i64.wrap (((madeX ss n).getD 1 0).tmod 7 - 3) = ((madeX ss n).getD 1 0).tmod 7 - 3 := wrap64 (by omega) (by omega)
    have w2 : IntKind.i64.wrap (((madeX ss n).getD 2 0).tmod 7 - 3) = ((madeX ss n).getD 2 0).tmod 7 - 3 := wrap64 (by omega) (by omega)
    have e1 := within_ok (x := ((madeX ss n).getD 1 0).tmod 7 - 3) (a := -3) (b := 3) (by omega) (by omega)
    have e2 := within_ok (x := ((madeX ss n).getD 2 0).tmod 7 - 3) (a := -3) (b := 3) (by omega) (by omega)
    show validB 8 (IntKind.i64.wrap (((madeX ss n).getD 1 0).tmod 7 - 3)) 0 (IntKind.i64.wrap (((madeX ss n).getD 2 0).tmod 7 - 3)) 0 [] 0 [] = true
    rw [w1, w2]
    generalize ((madeX ss n).getD 1 0).tmod 7 - 3 = x at e1
    generalize ((madeX ss n).getD 2 0).tmod 7 - 3 = y at e2
    simp [validB, chV, chB, nat0, e1, e2]
theorem sh_all (ss : List Int) (n : Nat) : ∃ sh, hasSh (madeX ss n) sh := by
  have h0 := tmod_range (m := 8) (madeX_get ss n 0).1 (by omega)
  have h1 := tmod_range (m := 3) (madeX_get ss n 1).1 (by omega)
  have : rem8 (madeX ss n) = 0 ∨ rem8 (madeX ss n) = 1 ∨ rem8 (madeX ss n) = 2 ∨ rem8 (madeX ss n) = 3 ∨ rem8 (madeX ss n) = 4 ∨ rem8 (madeX ss n) = 5 ∨ rem8 (madeX ss n) = 6 ∨ rem8 (madeX ss n) = 7 := by
    have : rem8 (madeX ss n) = ((madeX ss n).getD 0 0).tmod 8 := rfl
    omega
  rcases this with h | h | h | h | h | h | h | h
  · have : ((madeX ss n).getD 1 0).tmod 3 = 0 ∨ ((madeX ss n).getD 1 0).tmod 3 = 1 ∨ ((madeX ss n).getD 1 0).tmod 3 = 2 := by omega
    rcases this with q | q | q
    · exact ⟨.conv0, h, q⟩
    · exact ⟨.conv1, h, q⟩
    · exact ⟨.conv2, h, q⟩
  · exact ⟨.rank 2, by rw [h]; rfl, .inl rfl⟩
  · exact ⟨.rank 3, by rw [h]; rfl, .inr (.inl rfl)⟩
  · exact ⟨.rank 4, by rw [h]; rfl, .inr (.inr rfl)⟩
  · exact ⟨.tone, h⟩
  · exact ⟨.inv, h⟩
  · exact ⟨.thr, h⟩
  · exact ⟨.off, h⟩
end Go.Proofs.Ytadejpmecljjpaa
