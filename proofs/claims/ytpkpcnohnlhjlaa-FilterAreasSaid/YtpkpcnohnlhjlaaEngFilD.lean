/- Filter laws, part D: kernels and curves, read. No conditions. -/
import Derived.Test.YtpkpcnohnlhjlaaEngFilC
namespace Go.Proofs.Ytpkpcnohnlhjlaa
open Go Go.Eng

/-! ### slices.ContainsFunc, at the test of kernels -/
def badB (l : Nat) (ks : List Int) : Bool := decide (idxOut ks l ≥ 0)
def spec41 : List V → Tr O → Option (List Prop × V)
  | [v, .fn (.func 39) [] []], h => match rowOf h v with
    | some (l, ks) => some ([l ≤ ks.length, l ≤ 1000], .bool (badB l ks))
    | none => none
  | _, _ => none
theorem ok41n (c z : Nat) : funOk Try.prog S6 cf0 [] 1000 (bodyOf Try.f41) [nilS c z, fn39] .nil 0 = true := by kernel_rfl
theorem sm41n (c z : Nat) : samesL (funM Try.prog S6 cf0 [] 1000 (bodyOf Try.f41) [nilS c z, fn39] .nil 0) = samesR (funM Try.prog S6 cf0 [] 1000 (bodyOf Try.f41) [nilS c z, fn39] .nil 0) := by kernel_rfl
theorem hr41n (c z : Nat) : tells (retOf Try.prog (cfS S6) 1000 Try.f41) (funM Try.prog S6 cf0 [] 1000 (bodyOf Try.f41) [nilS c z, fn39] .nil 0) = [([], [0 ≤ ([] : List Int).length, 0 ≤ 1000], some (.bool (badB 0 [])))] := by kernel_rfl
theorem ok41 (ks : List Int) (l c : Nat) : funOk Try.prog S6 cf0 [] 1000 (bodyOf Try.f41) [sl l c, fn39] (rowA ks) 2 = true := by kernel_rfl
theorem sm41 (ks : List Int) (l c : Nat) : samesL (funM Try.prog S6 cf0 [] 1000 (bodyOf Try.f41) [sl l c, fn39] (rowA ks) 2) = samesR (funM Try.prog S6 cf0 [] 1000 (bodyOf Try.f41) [sl l c, fn39] (rowA ks) 2) := by kernel_rfl
theorem hr41 (ks : List Int) (l c : Nat) : tells (retOf Try.prog (cfS S6) 1000 Try.f41) (funM Try.prog S6 cf0 [] 1000 (bodyOf Try.f41) [sl l c, fn39] (rowA ks) 2) = [([], [l ≤ ks.length, l ≤ 1000], some (.bool (badB l ks)))] := by kernel_rfl

theorem p41 : PureA Try.prog 41 spec41 := by
  refine ⟨Nat.le_of_ble_eq_true (by kernel_rfl), fun args h A v e => ?_⟩
  unfold spec41 at e
  split at e
  · rename_i sv
    split at e
    · rename_i l ks hr
      simp only [Option.some.injEq, Prod.mk.injEq] at e; obtain ⟨rfl, rfl⟩ := e
      refine ⟨by kernel_rfl, fun hA E_ n_ w_ args_ ra_ g_ hd_ hc_ => ?_⟩
      rcases rowOf_cases hr with ⟨c, z, rfl, rfl, rfl⟩ | ⟨m, c, rfl, hm⟩
      · exact calls_tells mo po S6_ok cf0_ok Try.func41 (by kernel_rfl) (by kernel_rfl) ra_ (by kernel_rfl) _ (ok41n c z) (sm41n c z) (hr41n c z) (by simp)
      · have h1 : l ≤ ks.length := hA _ (by simp)
        have h2 : l ≤ 1000 := hA (l ≤ 1000) (by simp)
        obtain ⟨y, ys, r0, rs, rfl⟩ := ra_
        obtain ⟨g2, d2, n2⟩ := two_ok (a := some m) (b := none) (x := some ks) (y := none) g_ (fun k e => by cases e; exact ⟨m, rfl, hm⟩) (fun k e => by cases e)
        exact calls_tellsE mo po S6_ok cf0_ok Try.func41 (by kernel_rfl) g2 d2 n2 (args := [sl l c, fn39]) ⟨y, ys, two_slc0 r0, frees_rel _ _ (by kernel_rfl) rs, rfl⟩ (by kernel_rfl) _ (ok41 ks l c) (sm41 ks l c) (hr41 ks l c) (by simp [h1, h2])
    · cases e
  · cases e

/-! ### slices.IsSorted -/
noncomputable abbrev cd64 : Code := bodyOf Try.f64
def sI64 (ks : List Int) (l c i : Nat) : St := stL [(0, sl l c), (3, .int .i64 (Int.ofNat i))] (oneH ks) 1
def s164 (ks : List Int) (l c : Nat) : St := stL [(0, sl l c)] (oneH ks) 1
noncomputable abbrev X64 : Code := seqL (seqR cd64)
noncomputable abbrev B64 : Code := inner (inner (seqR X64))
abbrev H64 (i : Nat) : List (Nat × Fix) := [(8, .split), (17, .give (.int .i64 (Int.ofNat (i - 1)))), (20, .split), (10, .give (.int .i64 (Int.ofNat (i - 1))))]
noncomputable abbrev M64 (ks : List Int) (l c i : Nat) := codeM Try.prog S6 cf0 (H64 i) 1000 B64 (sI64 ks l c i)

theorem a64 (ks : List Int) (l c : Nat) : tells (normF [0]) (orNil (codeM Try.prog S6 cf0 [] 1000 (seqL cd64) (startSt [sl l c] (rowA ks) 2))) = [([], [], some (s164 ks l c))] := by kernel_rfl
theorem b64 (ks : List Int) (l c : Nat) : tells (normF [0, 3]) (orNil (codeM Try.prog S6 cf0 [(6, .give (.int .i64 (Int.ofNat (l - 1))))] 1000 (seqL X64) (s164 ks l c))) = [([], [V.int .i64 (IntKind.i64.wrap (Int.ofNat l - 1)) = V.int .i64 (Int.ofNat (l - 1))], some (sI64 ks l c (l - 1)))] := by kernel_rfl
theorem c64 (ks : List Int) (l c i : Nat) : tells (roundF Try.prog (cfS S6) 1000 Try.f64 [0, 3]) (orNil (M64 ks l c i)) =
    [([(decide (Int.ofNat i > 0), true), (decide (at0 ks (0 + i * 1) < at0 ks (0 + (i - 1) * 1)), true)], [0 ≤ Int.ofNat i ∧ Int.ofNat i < Int.ofNat l, 0 + i * 1 < ks.length, V.int .i64 (IntKind.i64.wrap (Int.ofNat i - 1)) = V.int .i64 (Int.ofNat (i - 1)), 0 ≤ Int.ofNat (i - 1) ∧ Int.ofNat (i - 1) < Int.ofNat l, 0 + (i - 1) * 1 < ks.length], .ret (.bool false)),
     ([(decide (Int.ofNat i > 0), true), (decide (at0 ks (0 + i * 1) < at0 ks (0 + (i - 1) * 1)), false)], [0 ≤ Int.ofNat i ∧ Int.ofNat i < Int.ofNat l, 0 + i * 1 < ks.length, V.int .i64 (IntKind.i64.wrap (Int.ofNat i - 1)) = V.int .i64 (Int.ofNat (i - 1)), 0 ≤ Int.ofNat (i - 1) ∧ Int.ofNat (i - 1) < Int.ofNat l, 0 + (i - 1) * 1 < ks.length, V.int .i64 (IntKind.i64.wrap (Int.ofNat i - 1)) = V.int .i64 (Int.ofNat (i - 1))], .next (sI64 ks l c (i - 1))),
     ([(decide (Int.ofNat i > 0), false)], [], .exit 0 (sI64 ks l c i))] := by kernel_rfl
theorem d64 (ks : List Int) (l c i : Nat) : tells (retOf Try.prog (cfS S6) 1000 Try.f64) (orNil (codeM Try.prog S6 cf0 [] 1000 (seqR (seqR cd64)) (sI64 ks l c i))) = [([], [], some (.bool true))] := by kernel_rfl

def sortedB (ks : List Int) (l : Nat) : Bool := decide (∀ j, j < l → 0 < j → at0 ks (j - 1) ≤ at0 ks j)

theorem down_ok {i : Nat} (h0 : 0 < i) (h : i < 1000000) : V.int .i64 (IntKind.i64.wrap (Int.ofNat i - 1)) = V.int .i64 (Int.ofNat (i - 1)) := by
  have : Int.ofNat i - 1 = Int.ofNat (i - 1) := by show (i : Int) - 1 = ((i - 1 : Nat) : Int); omega
  rw [this, wrap64 (by show -9223372036854775808 ≤ ((i - 1 : Nat) : Int); omega) (by show ((i - 1 : Nat) : Int) < 9223372036854775808; omega)]
theorem pos_ofNat {i : Nat} (h : decide (Int.ofNat i > 0) = true) : 0 < i := by
  have : (i : Int) > 0 := of_decide_eq_true h
  omega
theorem npos_ofNat {i : Nat} (h : decide (Int.ofNat i > 0) = false) : i = 0 := by
  have : ¬ (i : Int) > 0 := of_decide_eq_false h
  omega

theorem t64 (ks : List Int) (l c : Nat) (w0 : World) (hl0 : 0 < l) (hl : l ≤ ks.length) (hl2 : l ≤ 1000) : T Try.prog Try.f64.ntmps w0 cd64 (startSt [sl l c] (rowA ks) 2) (RetQ Try.prog (cfS S6) 1000 Try.f64 (.bool (sortedB ks l))) := by
  refine T_next (cS S6_ok) mo [] 1000 [0] (s164 ks l c) [] (by kernel_rfl) (by kernel_rfl) (by kernel_rfl) (by kernel_rfl) (a64 ks l c) (by simp) ?_
  refine T_seq' (by kernel_rfl) ?_
  refine T_next (cS S6_ok) mo _ 1000 [0, 3] (sI64 ks l c (l - 1)) _ (by kernel_rfl) (by kernel_rfl) (by kernel_rfl) (by kernel_rfl) (b64 ks l c) (by intro a ha; rw [List.mem_singleton.1 ha]; exact down_ok hl0 (by omega)) ?_
  refine T_block (i := 0) (by kernel_rfl) ?_
  refine T_rounds (cS S6_ok) mo H64 1000 Try.f64 [0, 3] (fun k s => k < l ∧ s = sI64 ks l c k ∧ ∀ j, k < j → j < l → at0 ks (j - 1) ≤ at0 ks j) (by kernel_rfl) (by kernel_rfl) ?_ (l - 1) ⟨by omega, rfl, fun j h1 h2 => by omega⟩
  rintro i s ⟨hi, rfl, hall⟩
  refine ⟨i, _, by kernel_rfl, by kernel_rfl, c64 ks l c i, fun g hg hc => ?_⟩
  simp only [List.mem_cons, List.not_mem_nil, or_false] at hg
  rcases hg with rfl | rfl | rfl
  · have hip := pos_ofNat (hc _ (List.mem_cons_self ..))
    have h2 : decide (at0 ks (0 + i * 1) < at0 ks (0 + (i - 1) * 1)) = true := hc _ (List.mem_cons_of_mem _ (List.mem_cons_self ..))
    rw [at00, at00, decide_eq_true_eq] at h2
    refine ⟨?_, fun s' hq => ?_⟩
    · simp only [List.mem_cons, List.not_mem_nil, or_false]
      rintro a (rfl | rfl | rfl | rfl | rfl)
      · exact in_ofNat hi
      · omega
      · exact down_ok hip (by omega)
      · exact in_ofNat (by omega)
      · omega
    · have : sortedB ks l = false := decide_eq_false fun h => by have := h i hi hip; omega
      rw [this]; exact hq
  · have hip := pos_ofNat (hc _ (List.mem_cons_self ..))
    have h2 : decide (at0 ks (0 + i * 1) < at0 ks (0 + (i - 1) * 1)) = false := hc _ (List.mem_cons_of_mem _ (List.mem_cons_self ..))
    rw [at00, at00, decide_eq_false_iff_not] at h2
    refine ⟨?_, i - 1, by omega, by omega, rfl, fun j h3 h4 => ?_⟩
    · simp only [List.mem_cons, List.not_mem_nil, or_false]
      rintro a (rfl | rfl | rfl | rfl | rfl | rfl)
      · exact in_ofNat hi
      · omega
      · exact down_ok hip (by omega)
      · exact in_ofNat (by omega)
      · omega
      · exact down_ok hip (by omega)
    · by_cases hj : j = i
      · subst hj; omega
      · exact hall j (by omega) h4
  · have hi0 := npos_ofNat (hc _ (List.mem_cons_self ..))
    subst hi0
    refine ⟨by simp, fun s' hs' => ?_⟩
    simp only [outOf, if_true, andThen]
    refine T_norm hs' (T_ret (cS S6_ok) mo [] 1000 Try.f64 _ _ (by kernel_rfl) (by kernel_rfl) (by kernel_rfl) (d64 ks l c 0) ?_)
    have : sortedB ks l = true := decide_eq_true fun j h1 h2 => hall j h2 h1
    rw [this]
    simp

def spec64 : List V → Tr O → Option (List Prop × V)
  | [.slc (some (m, 0)) l c 1], h => match h.get m with
    | some (.ints .i64 ks) => some ([0 < l, l ≤ ks.length, l ≤ 1000], .bool (sortedB ks l))
    | _ => none
  | _, _ => none
theorem p64 : PureA Try.prog 64 spec64 := by
  refine ⟨Nat.le_of_ble_eq_true (by kernel_rfl), fun args h A v e => ?_⟩
  unfold spec64 at e
  split at e
  · rename_i m l c
    split at e
    · rename_i ks hm
      simp only [Option.some.injEq, Prod.mk.injEq] at e; obtain ⟨rfl, rfl⟩ := e
      refine ⟨by kernel_rfl, fun hA E_ n_ w_ args_ ra_ g_ hd_ hc_ => ?_⟩
      have h0 : 0 < l := hA _ (by simp)
      have h1 : l ≤ ks.length := hA _ (by simp)
      have h2 : l ≤ 1000 := hA (l ≤ 1000) (by simp)
      obtain ⟨y, ys, r0, rs, rfl⟩ := ra_
      exact oneCall S6_ok Try.func64 (by kernel_rfl) g_ hm (args := [sl l c]) ⟨y, ys, two_slc0 r0, rs, rfl⟩ (by kernel_rfl) fun w0 => t64 ks l c w0 h0 h1 h2
    · cases e
  · cases e

abbrev S7 : Ctr := addS 64 spec64 (addS 41 spec41 S6)
theorem S7_ok : CtrOk Try.prog S7 := addS_ok p64 (addS_ok p41 S6_ok)

/-! ### curve.Valid -/
def curveB (l : Nat) (ks : List Int) : Bool := pointsB (Int.ofNat l) && (decide (at0 ks 0 ≥ 0) && (decide (at0 ks (l - 1) ≤ 65535) && sortedB ks l))
def spec42 : List V → Tr O → Option (List Prop × V)
  | [v], h => match rowOf h v with
    | some (l, ks) => some ([l ≤ ks.length, l ≤ 1000], .bool (curveB l ks))
    | none => none
  | _, _ => none
abbrev H42 (l : Nat) : List (Nat × Fix) := [(5, .split), (10, .split), (16, .give (.int .i64 (Int.ofNat (l - 1)))), (19, .split)]
theorem ok42n (c z : Nat) : funOk Try.prog S7 cf0 [] 1000 (bodyOf Try.f42) [nilS c z] .nil 0 = true := by kernel_rfl
theorem sm42n (c z : Nat) : samesL (funM Try.prog S7 cf0 [] 1000 (bodyOf Try.f42) [nilS c z] .nil 0) = samesR (funM Try.prog S7 cf0 [] 1000 (bodyOf Try.f42) [nilS c z] .nil 0) := by kernel_rfl
theorem hr42n (c z : Nat) : tells (retOf Try.prog (cfS S7) 1000 Try.f42) (funM Try.prog S7 cf0 [] 1000 (bodyOf Try.f42) [nilS c z] .nil 0) = [([], [], some (.bool false))] := by kernel_rfl
theorem ok42 (ks : List Int) (l c : Nat) : funOk Try.prog S7 cf0 (H42 l) 1000 (bodyOf Try.f42) [sl l c] (rowA ks) 2 = true := by kernel_rfl
theorem sm42 (ks : List Int) (l c : Nat) : samesL (funM Try.prog S7 cf0 (H42 l) 1000 (bodyOf Try.f42) [sl l c] (rowA ks) 2) = samesR (funM Try.prog S7 cf0 (H42 l) 1000 (bodyOf Try.f42) [sl l c] (rowA ks) 2) := by kernel_rfl
theorem hr42 (ks : List Int) (l c : Nat) : tells (retOf Try.prog (cfS S7) 1000 Try.f42) (funM Try.prog S7 cf0 (H42 l) 1000 (bodyOf Try.f42) [sl l c] (rowA ks) 2) =
    [([(pointsB (Int.ofNat l), true), (decide (at0 ks 0 ≥ 0), true), (decide (at0 ks (0 + (l - 1) * 1) ≤ 65535), true)], [0 ≤ (0 : Int) ∧ 0 < Int.ofNat l, 0 < ks.length, V.int .i64 (IntKind.i64.wrap (Int.ofNat l - 1)) = V.int .i64 (Int.ofNat (l - 1)), 0 ≤ Int.ofNat (l - 1) ∧ Int.ofNat (l - 1) < Int.ofNat l, 0 + (l - 1) * 1 < ks.length, 0 < l, l ≤ ks.length, l ≤ 1000], some (.bool (sortedB ks l))),
     ([(pointsB (Int.ofNat l), true), (decide (at0 ks 0 ≥ 0), true), (decide (at0 ks (0 + (l - 1) * 1) ≤ 65535), false)], [0 ≤ (0 : Int) ∧ 0 < Int.ofNat l, 0 < ks.length, V.int .i64 (IntKind.i64.wrap (Int.ofNat l - 1)) = V.int .i64 (Int.ofNat (l - 1)), 0 ≤ Int.ofNat (l - 1) ∧ Int.ofNat (l - 1) < Int.ofNat l, 0 + (l - 1) * 1 < ks.length], some (.bool false)),
     ([(pointsB (Int.ofNat l), true), (decide (at0 ks 0 ≥ 0), false)], [0 ≤ (0 : Int) ∧ 0 < Int.ofNat l, 0 < ks.length], some (.bool false)),
     ([(pointsB (Int.ofNat l), false)], [], some (.bool false))] := by kernel_rfl

theorem points_nat {l : Nat} (h : pointsB (Int.ofNat l) = true) : 2 ≤ l ∧ l ≤ 257 := by
  simp only [pointsB, Bool.and_eq_true, decide_eq_true_eq] at h
  have h1 : (l : Int) ≥ 2 := h.1
  have h2 : (l : Int) ≤ 257 := h.2
  omega

theorem p42 : PureA Try.prog 42 spec42 := by
  refine ⟨Nat.le_of_ble_eq_true (by kernel_rfl), fun args h A v e => ?_⟩
  unfold spec42 at e
  split at e
  · rename_i sv
    split at e
    · rename_i l ks hr
      simp only [Option.some.injEq, Prod.mk.injEq] at e; obtain ⟨rfl, rfl⟩ := e
      refine ⟨by kernel_rfl, fun hA E_ n_ w_ args_ ra_ g_ hd_ hc_ => ?_⟩
      rcases rowOf_cases hr with ⟨c, z, rfl, rfl, rfl⟩ | ⟨m, c, rfl, hm⟩
      · exact calls_tells mo po S7_ok cf0_ok Try.func42 (by kernel_rfl) (by kernel_rfl) ra_ (by kernel_rfl) _ (ok42n c z) (sm42n c z) (hr42n c z) (by simp [curveB, pointsB])
      · have h1 : l ≤ ks.length := hA _ (by simp)
        have h2 : l ≤ 1000 := hA (l ≤ 1000) (by simp)
        obtain ⟨y, ys, r0, rs, rfl⟩ := ra_
        obtain ⟨g2, d2, n2⟩ := two_ok (a := some m) (b := none) (x := some ks) (y := none) g_ (fun k e => by cases e; exact ⟨m, rfl, hm⟩) (fun k e => by cases e)
        refine calls_tellsE mo po S7_ok cf0_ok Try.func42 (by kernel_rfl) g2 d2 n2 (args := [sl l c]) ⟨y, ys, two_slc0 r0, rs, rfl⟩ (by kernel_rfl) _ (ok42 ks l c) (sm42 ks l c) (hr42 ks l c) ?_
        intro g hg hc
        simp only [List.mem_cons, List.not_mem_nil, or_false] at hg
        have asr : 2 ≤ l → (0 ≤ (0 : Int) ∧ 0 < Int.ofNat l) ∧ 0 < ks.length ∧ V.int .i64 (IntKind.i64.wrap (Int.ofNat l - 1)) = V.int .i64 (Int.ofNat (l - 1)) ∧ (0 ≤ Int.ofNat (l - 1) ∧ Int.ofNat (l - 1) < Int.ofNat l) ∧ 0 + (l - 1) * 1 < ks.length ∧ 0 < l :=
          fun hl => ⟨⟨Int.le_refl _, by show (0 : Int) < (l : Int); omega⟩, by omega, down_ok (by omega) (by omega), in_ofNat (by omega), by omega, by omega⟩
        rcases hg with rfl | rfl | rfl | rfl
        · have hp : pointsB (Int.ofNat l) = true := hc _ (List.mem_cons_self ..)
          have hq : decide (at0 ks 0 ≥ 0) = true := hc _ (List.mem_cons_of_mem _ (List.mem_cons_self ..))
          have hz : decide (at0 ks (0 + (l - 1) * 1) ≤ 65535) = true := hc _ (List.mem_cons_of_mem _ (List.mem_cons_of_mem _ (List.mem_cons_self ..)))
          rw [at00] at hz
          obtain ⟨q1, q2, q3, q4, q5, q6⟩ := asr (points_nat hp).1
          refine ⟨?_, by simp only [curveB, hp, hq, hz, Bool.true_and]⟩
          simp only [List.mem_cons, List.not_mem_nil, or_false]
          rintro a (rfl | rfl | rfl | rfl | rfl | rfl | rfl | rfl) <;> assumption
        · have hp : pointsB (Int.ofNat l) = true := hc _ (List.mem_cons_self ..)
          have hq : decide (at0 ks 0 ≥ 0) = true := hc _ (List.mem_cons_of_mem _ (List.mem_cons_self ..))
          have hz : decide (at0 ks (0 + (l - 1) * 1) ≤ 65535) = false := hc _ (List.mem_cons_of_mem _ (List.mem_cons_of_mem _ (List.mem_cons_self ..)))
          rw [at00] at hz
          obtain ⟨q1, q2, q3, q4, q5, q6⟩ := asr (points_nat hp).1
          refine ⟨?_, by simp only [curveB, hp, hq, hz, Bool.true_and, Bool.false_and]⟩
          simp only [List.mem_cons, List.not_mem_nil, or_false]
          rintro a (rfl | rfl | rfl | rfl | rfl) <;> assumption
        · have hp : pointsB (Int.ofNat l) = true := hc _ (List.mem_cons_self ..)
          have hq : decide (at0 ks 0 ≥ 0) = false := hc _ (List.mem_cons_of_mem _ (List.mem_cons_self ..))
          obtain ⟨q1, q2, q3, q4, q5, q6⟩ := asr (points_nat hp).1
          refine ⟨?_, by simp only [curveB, hp, hq, Bool.true_and, Bool.false_and]⟩
          simp only [List.mem_cons, List.not_mem_nil, or_false]
          rintro a (rfl | rfl) <;> assumption
        · have hp : pointsB (Int.ofNat l) = false := hc _ (List.mem_cons_self ..)
          exact ⟨by simp, by simp only [curveB, hp, Bool.false_and]⟩
    · cases e
  · cases e
end Go.Proofs.Ytpkpcnohnlhjlaa
