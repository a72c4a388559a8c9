/- Filter laws, part E: the reference's test of curves. No conditions. -/
import Derived.Test.YtpkpcnohnlhjlaaEngFilD
namespace Go.Proofs.Ytpkpcnohnlhjlaa
open Go Go.Eng

noncomputable abbrev cd38 : Code := bodyOf Try.f38
def s138 (ks : List Int) (l c : Nat) : St := stL [(0, sl l c)] (oneH ks) 1
def s238 (ks : List Int) (l c : Nat) : St := stL [(0, sl l c), (3, .bool true)] (oneH ks) 1
def sI38 (ks : List Int) (l c i : Nat) : St := stL [(0, sl l c), (4, .int .i64 (Int.ofNat i))] (oneH ks) 1
noncomputable abbrev Y38 : Code := seqR (seqR (seqR cd38))
noncomputable abbrev X38 : Code := seqL Y38
noncomputable abbrev B38 : Code := inner (inner (seqR X38))
abbrev H38 (i : Nat) : List (Nat × Fix) := [(13, .split), (20, .split), (26, .split), (30, .split), (38, .give (.int .i64 (Int.ofNat (i - 1)))), (41, .split), (15, .give (.int .i64 (Int.ofNat (i + 1))))]
noncomputable abbrev M38 (ks : List Int) (l c i : Nat) := codeM Try.prog S7 cf0 (H38 i) 1000 B38 (sI38 ks l c i)

theorem n38 (ks : List Int) (l c : Nat) : tells (retOf Try.prog (cfS S7) 1000 Try.f38) (orNil (codeM Try.prog S7 cf0 [(7, .give (.bool false))] 1000 cd38 (startSt [sl l c] (rowA ks) 2))) = [([], [V.bool (pointsB (Int.ofNat l)) = V.bool false], some (.bool false))] := by kernel_rfl
theorem a38 (ks : List Int) (l c : Nat) : tells (normF [0]) (orNil (codeM Try.prog S7 cf0 [] 1000 (seqL cd38) (startSt [sl l c] (rowA ks) 2))) = [([], [], some (s138 ks l c))] := by kernel_rfl
theorem a38' (ks : List Int) (l c : Nat) : tells (normF [0, 3]) (orNil (codeM Try.prog S7 cf0 [(7, .give (.bool true))] 1000 (seqL (seqR cd38)) (s138 ks l c))) = [([], [V.bool (pointsB (Int.ofNat l)) = V.bool true], some (s238 ks l c))] := by kernel_rfl
theorem a38'' (ks : List Int) (l c : Nat) : tells (normF [0]) (orNil (codeM Try.prog S7 cf0 [] 1000 (seqL (seqR (seqR cd38))) (s238 ks l c))) = [([], [], some (s138 ks l c))] := by kernel_rfl
theorem b38 (ks : List Int) (l c : Nat) : tells (normF [0, 4]) (orNil (codeM Try.prog S7 cf0 [] 1000 (seqL X38) (s138 ks l c))) = [([], [], some (sI38 ks l c 0))] := by kernel_rfl
def ix (l i : Nat) : Prop := 0 ≤ Int.ofNat i ∧ Int.ofNat i < Int.ofNat l
def ld (ks : List Int) (i : Nat) : Prop := 0 + i * 1 < ks.length
def atx (ks : List Int) (i : Nat) : Int := at0 ks (0 + i * 1)
theorem c38 (ks : List Int) (l c i : Nat) : tells (roundF Try.prog (cfS S7) 1000 Try.f38 [0, 4]) (orNil (M38 ks l c i)) =
    [([(decide (Int.ofNat i < Int.ofNat l), true), (decide (atx ks i < 0), true)], [ix l i, ld ks i], .ret (.bool false)),
     ([(decide (Int.ofNat i < Int.ofNat l), true), (decide (atx ks i < 0), false), (decide (atx ks i > 65535), true)], [ix l i, ld ks i, ix l i, ld ks i], .ret (.bool false)),
     ([(decide (Int.ofNat i < Int.ofNat l), true), (decide (atx ks i < 0), false), (decide (atx ks i > 65535), false), (decide (Int.ofNat i > 0), true), (decide (atx ks i < atx ks (i - 1)), true)], [ix l i, ld ks i, ix l i, ld ks i, ix l i, ld ks i, V.int .i64 (IntKind.i64.wrap (Int.ofNat i - 1)) = V.int .i64 (Int.ofNat (i - 1)), ix l (i - 1), ld ks (i - 1)], .ret (.bool false)),
     ([(decide (Int.ofNat i < Int.ofNat l), true), (decide (atx ks i < 0), false), (decide (atx ks i > 65535), false), (decide (Int.ofNat i > 0), true), (decide (atx ks i < atx ks (i - 1)), false)], [ix l i, ld ks i, ix l i, ld ks i, ix l i, ld ks i, V.int .i64 (IntKind.i64.wrap (Int.ofNat i - 1)) = V.int .i64 (Int.ofNat (i - 1)), ix l (i - 1), ld ks (i - 1), V.int .i64 (IntKind.i64.wrap (Int.ofNat i + 1)) = V.int .i64 (Int.ofNat (i + 1))], .next (sI38 ks l c (i + 1))),
     ([(decide (Int.ofNat i < Int.ofNat l), true), (decide (atx ks i < 0), false), (decide (atx ks i > 65535), false), (decide (Int.ofNat i > 0), false)], [ix l i, ld ks i, ix l i, ld ks i, V.int .i64 (IntKind.i64.wrap (Int.ofNat i + 1)) = V.int .i64 (Int.ofNat (i + 1))], .next (sI38 ks l c (i + 1))),
     ([(decide (Int.ofNat i < Int.ofNat l), false)], [], .exit 0 (sI38 ks l c i))] := by kernel_rfl
theorem d38 (ks : List Int) (l c i : Nat) : tells (retOf Try.prog (cfS S7) 1000 Try.f38) (orNil (codeM Try.prog S7 cf0 [] 1000 (seqR Y38) (sI38 ks l c i))) = [([], [], some (.bool true))] := by kernel_rfl

/-- a point may stand at its place -/
def fineAt (ks : List Int) (i : Nat) : Prop := 0 ≤ at0 ks i ∧ at0 ks i ≤ 65535 ∧ (0 < i → at0 ks (i - 1) ≤ at0 ks i)

theorem curveB_true {l : Nat} {ks : List Int} (hp : pointsB (Int.ofNat l) = true) (h : ∀ i, i < l → fineAt ks i) : curveB l ks = true := by
  have hl := points_nat hp
  have h1 : decide (at0 ks 0 ≥ 0) = true := decide_eq_true (h 0 (by omega)).1
  have h2 : decide (at0 ks (l - 1) ≤ 65535) = true := decide_eq_true (h (l - 1) (by omega)).2.1
  have h3 : sortedB ks l = true := decide_eq_true fun j hj h0 => (h j hj).2.2 h0
  simp only [curveB, hp, h1, h2, h3, Bool.and_self]

theorem sorted_le {ks : List Int} {l : Nat} (h : sortedB ks l = true) : ∀ (j i : Nat), i ≤ j → j < l → at0 ks i ≤ at0 ks j := by
  have h := of_decide_eq_true h
  intro j
  induction j with
  | zero => intro i hi _; have : i = 0 := by omega
            subst this; exact Int.le_refl _
  | succ j ih =>
    intro i hi hj
    by_cases q : i = j + 1
    · subst q; exact Int.le_refl _
    · have h1 := ih i (by omega) (by omega)
      have h2 := h (j + 1) hj (by omega)
      simp only [Nat.add_sub_cancel] at h2
      omega

theorem curveB_false {l : Nat} {ks : List Int} {i : Nat} (hi : i < l) (h : ¬ fineAt ks i) : curveB l ks = false := by
  cases hb : curveB l ks with
  | false => rfl
  | true =>
    exfalso
    simp only [curveB, Bool.and_eq_true, decide_eq_true_eq] at hb
    obtain ⟨hp, h1, h2, h3⟩ := hb
    have hle := sorted_le h3
    have k1 := hle i 0 (by omega) hi
    have k2 := hle (l - 1) i (by omega) (by omega)
    exact h ⟨by omega, by omega, fun h0 => of_decide_eq_true h3 i hi h0⟩

theorem t38 (ks : List Int) (l c : Nat) (w0 : World) (hl : l ≤ ks.length) (hl2 : l ≤ 1000) : T Try.prog Try.f38.ntmps w0 cd38 (startSt [sl l c] (rowA ks) 2) (RetQ Try.prog (cfS S7) 1000 Try.f38 (.bool (curveB l ks))) := by
  cases hp : pointsB (Int.ofNat l) with
  | false =>
    refine T_ret (cS S7_ok) mo _ 1000 Try.f38 _ _ (by kernel_rfl) (by kernel_rfl) (by kernel_rfl) (n38 ks l c) ?_
    have : curveB l ks = false := by simp only [curveB, hp, Bool.false_and]
    rw [this]
    intro g hg _
    rw [List.mem_singleton.1 hg]
    exact ⟨fun a ha => by rw [List.mem_singleton.1 ha, hp], rfl⟩
  | true =>
  refine T_next (cS S7_ok) mo [] 1000 [0] (s138 ks l c) [] (by kernel_rfl) (by kernel_rfl) (by kernel_rfl) (by kernel_rfl) (a38 ks l c) (by simp) ?_
  refine T_next (cS S7_ok) mo _ 1000 [0, 3] (s238 ks l c) _ (by kernel_rfl) (by kernel_rfl) (by kernel_rfl) (by kernel_rfl) (a38' ks l c) (fun a ha => by rw [List.mem_singleton.1 ha, hp]) ?_
  refine T_next (cS S7_ok) mo _ 1000 [0] (s138 ks l c) _ (by kernel_rfl) (by kernel_rfl) (by kernel_rfl) (by kernel_rfl) (a38'' ks l c) (by simp) ?_
  refine T_seq' (by kernel_rfl) ?_
  refine T_next (cS S7_ok) mo [] 1000 [0, 4] (sI38 ks l c 0) [] (by kernel_rfl) (by kernel_rfl) (by kernel_rfl) (by kernel_rfl) (b38 ks l c) (by simp) ?_
  refine T_block (i := 0) (by kernel_rfl) ?_
  refine T_rounds (cS S7_ok) mo H38 1000 Try.f38 [0, 4] (fun k s => ∃ i, k = l - i ∧ i ≤ l ∧ s = sI38 ks l c i ∧ ∀ j, j < i → fineAt ks j) (by kernel_rfl) (by kernel_rfl) ?_ l ⟨0, rfl, Nat.zero_le _, rfl, fun j hj => absurd hj (by omega)⟩
  rintro k s ⟨i, hk, hi, rfl, hall⟩
  refine ⟨i, _, by kernel_rfl, by kernel_rfl, c38 ks l c i, fun g hg hc => ?_⟩
  simp only [List.mem_cons, List.not_mem_nil, or_false] at hg
  have hx : ∀ j, atx ks j = at0 ks j := fun j => at00 ks j
  have hix : ∀ j, j < l → ix l j := fun j hj => in_ofNat hj
  have hld : ∀ j, j < l → ld ks j := fun j hj => by unfold ld; omega
  rcases hg with rfl | rfl | rfl | rfl | rfl | rfl
  · have hil := lt_ofNat (hc _ (List.mem_cons_self ..))
    have h2 : decide (atx ks i < 0) = true := hc (decide (atx ks i < 0), true) (List.mem_cons_of_mem _ (List.mem_cons_self ..))
    rw [hx, decide_eq_true_eq] at h2
    refine ⟨?_, fun s' hq => ?_⟩
    · simp only [List.mem_cons, List.not_mem_nil, or_false]
      rintro a (rfl | rfl)
      · exact hix i hil
      · exact hld i hil
    · rw [curveB_false hil (fun h => by have := h.1; omega)]; exact hq
  · have hil := lt_ofNat (hc _ (List.mem_cons_self ..))
    have h2 : decide (atx ks i > 65535) = true := hc (decide (atx ks i > 65535), true) (List.mem_cons_of_mem _ (List.mem_cons_of_mem _ (List.mem_cons_self ..)))
    rw [hx, decide_eq_true_eq] at h2
    refine ⟨?_, fun s' hq => ?_⟩
    · simp only [List.mem_cons, List.not_mem_nil, or_false]
      rintro a (rfl | rfl | rfl | rfl) <;> first | exact hix i hil | exact hld i hil
    · rw [curveB_false hil (fun h => by have := h.2.1; omega)]; exact hq
  · have hil := lt_ofNat (hc _ (List.mem_cons_self ..))
    have h3 := pos_ofNat (hc (decide (Int.ofNat i > 0), true) (List.mem_cons_of_mem _ (List.mem_cons_of_mem _ (List.mem_cons_of_mem _ (List.mem_cons_self ..)))))
    have h2 : decide (atx ks i < atx ks (i - 1)) = true := hc (decide (atx ks i < atx ks (i - 1)), true) (List.mem_cons_of_mem _ (List.mem_cons_of_mem _ (List.mem_cons_of_mem _ (List.mem_cons_of_mem _ (List.mem_cons_self ..)))))
    rw [hx, hx, decide_eq_true_eq] at h2
    refine ⟨?_, fun s' hq => ?_⟩
    · simp only [List.mem_cons, List.not_mem_nil, or_false]
      rintro a (rfl | rfl | rfl | rfl | rfl | rfl | rfl | rfl | rfl) <;> first | exact hix i hil | exact hld i hil | exact hix (i - 1) (by omega) | exact hld (i - 1) (by omega) | exact down_ok h3 (by omega)
    · rw [curveB_false hil (fun h => by have := h.2.2 h3; omega)]; exact hq
  · have hil := lt_ofNat (hc _ (List.mem_cons_self ..))
    have k1 : decide (atx ks i < 0) = false := hc (decide (atx ks i < 0), false) (List.mem_cons_of_mem _ (List.mem_cons_self ..))
    have k2 : decide (atx ks i > 65535) = false := hc (decide (atx ks i > 65535), false) (List.mem_cons_of_mem _ (List.mem_cons_of_mem _ (List.mem_cons_self ..)))
    have h3 := pos_ofNat (hc (decide (Int.ofNat i > 0), true) (List.mem_cons_of_mem _ (List.mem_cons_of_mem _ (List.mem_cons_of_mem _ (List.mem_cons_self ..)))))
    have h2 : decide (atx ks i < atx ks (i - 1)) = false := hc (decide (atx ks i < atx ks (i - 1)), false) (List.mem_cons_of_mem _ (List.mem_cons_of_mem _ (List.mem_cons_of_mem _ (List.mem_cons_of_mem _ (List.mem_cons_self ..)))))
    rw [hx, decide_eq_false_iff_not] at k1 k2
    rw [hx, hx, decide_eq_false_iff_not] at h2
    refine ⟨?_, l - (i + 1), by omega, i + 1, rfl, hil, rfl, fun j hj => ?_⟩
    · simp only [List.mem_cons, List.not_mem_nil, or_false]
      rintro a (rfl | rfl | rfl | rfl | rfl | rfl | rfl | rfl | rfl | rfl) <;> first | exact hix i hil | exact hld i hil | exact hix (i - 1) (by omega) | exact hld (i - 1) (by omega) | exact down_ok h3 (by omega) | exact up_ok (by omega)
    · by_cases hji : j = i
      · subst hji; exact ⟨by omega, by omega, fun _ => by omega⟩
      · exact hall j (by omega)
  · have hil := lt_ofNat (hc _ (List.mem_cons_self ..))
    have k1 : decide (atx ks i < 0) = false := hc (decide (atx ks i < 0), false) (List.mem_cons_of_mem _ (List.mem_cons_self ..))
    have k2 : decide (atx ks i > 65535) = false := hc (decide (atx ks i > 65535), false) (List.mem_cons_of_mem _ (List.mem_cons_of_mem _ (List.mem_cons_self ..)))
    have h3 := npos_ofNat (hc (decide (Int.ofNat i > 0), false) (List.mem_cons_of_mem _ (List.mem_cons_of_mem _ (List.mem_cons_of_mem _ (List.mem_cons_self ..)))))
    rw [hx, decide_eq_false_iff_not] at k1 k2
    refine ⟨?_, l - (i + 1), by omega, i + 1, rfl, hil, rfl, fun j hj => ?_⟩
    · simp only [List.mem_cons, List.not_mem_nil, or_false]
      rintro a (rfl | rfl | rfl | rfl | rfl) <;> first | exact hix i hil | exact hld i hil | exact up_ok (by omega)
    · by_cases hji : j = i
      · subst hji; exact ⟨by omega, by omega, fun h0 => absurd h0 (by omega)⟩
      · exact hall j (by omega)
  · have hil := nlt_ofNat (hc _ (List.mem_cons_self ..))
    refine ⟨by simp, fun s' hs' => ?_⟩
    have hil : i = l := by omega
    subst hil
    simp only [outOf, if_true, andThen]
    refine T_norm hs' (T_ret (cS S7_ok) mo [] 1000 Try.f38 _ _ (by kernel_rfl) (by kernel_rfl) (by kernel_rfl) (d38 ks i c i) ?_)
    rw [curveB_true hp hall]
    simp

theorem ok38n (c z : Nat) : funOk Try.prog S7 cf0 [] 1000 (bodyOf Try.f38) [nilS c z] .nil 0 = true := by kernel_rfl
theorem sm38n (c z : Nat) : samesL (funM Try.prog S7 cf0 [] 1000 (bodyOf Try.f38) [nilS c z] .nil 0) = samesR (funM Try.prog S7 cf0 [] 1000 (bodyOf Try.f38) [nilS c z] .nil 0) := by kernel_rfl
theorem hr38n (c z : Nat) : tells (retOf Try.prog (cfS S7) 1000 Try.f38) (funM Try.prog S7 cf0 [] 1000 (bodyOf Try.f38) [nilS c z] .nil 0) = [([], [], some (.bool false))] := by kernel_rfl
theorem p38 : PureA Try.prog 38 spec42 := by
  refine ⟨Nat.le_of_ble_eq_true (by kernel_rfl), fun args h A v e => ?_⟩
  unfold spec42 at e
  split at e
  · rename_i sv
    split at e
    · rename_i l ks hr
      simp only [Option.some.injEq, Prod.mk.injEq] at e; obtain ⟨rfl, rfl⟩ := e
      refine ⟨by kernel_rfl, fun hA E_ n_ w_ args_ ra_ g_ hd_ hc_ => ?_⟩
      rcases rowOf_cases hr with ⟨c, z, rfl, rfl, rfl⟩ | ⟨m, c, rfl, hm⟩
      · exact calls_tells mo po S7_ok cf0_ok Try.func38 (by kernel_rfl) (by kernel_rfl) ra_ (by kernel_rfl) _ (ok38n c z) (sm38n c z) (hr38n c z) (by simp [curveB, pointsB])
      · have h1 : l ≤ ks.length := hA _ (by simp)
        have h2 : l ≤ 1000 := hA (l ≤ 1000) (by simp)
        obtain ⟨y, ys, r0, rs, rfl⟩ := ra_
        exact oneCall S7_ok Try.func38 (by kernel_rfl) g_ hm (args := [sl l c]) ⟨y, ys, two_slc0 r0, rs, rfl⟩ (by kernel_rfl) fun w0 => t38 ks l c w0 h1 h2
    · cases e
  · cases e

abbrev S8 : Ctr := addS 38 spec42 (addS 42 spec42 S7)
theorem S8_ok : CtrOk Try.prog S8 := addS_ok p38 (addS_ok p42 S7_ok)
end Go.Proofs.Ytpkpcnohnlhjlaa
