/- Filter laws, part I: the reference's test of kernels; the contract of both tests. No conditions. -/
import Derived.Test.YtpkpcnohnlhjlaaEngFilH
namespace Go.Proofs.Ytpkpcnohnlhjlaa
open Go Go.Eng

/-- what a piece returns that ends by a return -/
def retX (P : Program) (cf : CallF) (F : Nat) (fn : Func) (p : X × St) : Option V := match p.1 with
  | .ret => retOf P cf F fn p
  | _ => none
theorem T_retX {S : Ctr} (hS : CtrOk Try.prog S) (H : List (Nat × Fix)) (fn : Func) (v : V) (G : List (List (Bool × Bool) × List Prop × Option V)) {N : Nat} {w0 : World} {c : Code} {s : St} {Q : Exit → St → Prop} (hc : codeOk N c = true) (e1 : (codeM Try.prog S cf0 H 1000 c s).isSome = true)
    (e2 : samesL (orNil (codeM Try.prog S cf0 H 1000 c s)) = samesR (orNil (codeM Try.prog S cf0 H 1000 c s))) (e3 : tells (retX Try.prog (cfS S) 1000 fn) (orNil (codeM Try.prog S cf0 H 1000 c s)) = G) (h : ∀ g ∈ G, (∀ b ∈ g.1, b.1 = b.2) → (∀ a ∈ g.2.1, a) ∧ g.2.2 = some v)
    (hQ : ∀ s', RetQ Try.prog (cfS S) 1000 fn v .ret s' → Q .ret s') : T Try.prog N w0 c s Q :=
  T_tells (cS hS) mo (retX Try.prog (cfS S) 1000 fn) G hc e1 e2 e3 fun g hg hc => by
    obtain ⟨k1, k2⟩ := h g hg hc
    refine ⟨k1, fun x s' hx => ?_⟩
    rw [k2] at hx
    cases x with
    | ret =>
      have hx : retOf Try.prog (cfS S) 1000 fn (.ret, s') = some v := hx
      obtain ⟨y, q1, q2, q3⟩ := retOf_some hx
      exact ⟨.ret, rfl, hQ s' ⟨.inr rfl, q3⟩⟩
    | _ => cases hx

noncomputable abbrev cd20 : Code := bodyOf Try.f20
noncomputable abbrev A20 : Code := seqL (seqR (seqR cd20))
noncomputable abbrev Y20 : Code := inner (seqR A20)
noncomputable abbrev K20 : Code := condT (seqR Y20)
noncomputable abbrev X20 : Code := seqL (seqR K20)
noncomputable abbrev B20 : Code := inner (inner (seqR X20))

def h20 (r d v : Int) (lK : Nat) (ks : List Int) (lC : Nat) (cs : List Int) (nC : Bool) (cK cC zC : Nat) : Tr O := match nC with
  | true => (Tr.nil.set 0 (some (.cells [.int .i64 1, .int .i64 r, .slc (some (1, 0)) lK cK 1, .int .i64 d, .int .i64 v, .slc none 0 cC zC]))).set 1 (some (.ints .i64 ks))
  | false => ((Tr.nil.set 0 (some (.cells [.int .i64 1, .int .i64 r, .slc (some (1, 0)) lK cK 1, .int .i64 d, .int .i64 v, .slc (some (2, 0)) lC cC 1]))).set 1 (some (.ints .i64 ks))).set 2 (some (.ints .i64 cs))
def s20 (r d v : Int) (lK : Nat) (ks : List Int) (lC : Nat) (cs : List Int) (nC : Bool) (cK cC zC : Nat) (l : List (Nat × V)) : St := stL ((1, .ptr (some (0, 0))) :: l) (h20 r d v lK ks lC cs nC cK cC zC) (match nC with | true => 2 | false => 3)
section
variable (r d v : Int) (lK : Nat) (ks : List Int) (lC : Nat) (cs : List Int) (nC : Bool) (cK zK cC zC : Nat)
abbrev e20 : List (Nat × V) → St := s20 r d v lK ks lC cs nC cK cC zC
noncomputable abbrev run20 (H : List (Nat × Fix)) (c : Code) (s : St) := codeM Try.prog S9 cf0 H 1000 c s
abbrev st20 : St := startSt [FV 1 r (sK false lK cK zK) d v (sC nC lC cC zC)] (hF false nC ks cs) 2
abbrev H20k : List (Nat × Fix) := [(32, .give (.bool false)), (37, .give (.bool false)), (42, .give (.bool false))]
abbrev H20l (i : Nat) : List (Nat × Fix) := [(48, .split), (56, .split), (63, .split), (50, .give (.int .i64 (Int.ofNat (i + 1))))]
def ak20 : List Prop := [isB (!decide (Int.ofNat lK = w64 (side r * side r))) false, isB (decide (d < 1)) false, isB (decide (d > 1048576)) false]
theorem q1i : (run20 [] (seqL cd20) (st20 r d v lK ks lC cs nC cK zK cC zC)).isSome = true := by cases nC <;> kernel_rfl
theorem q1s : samesL (orNil (run20 [] (seqL cd20) (st20 r d v lK ks lC cs nC cK zK cC zC))) = samesR (orNil (run20 [] (seqL cd20) (st20 r d v lK ks lC cs nC cK zK cC zC))) := by cases nC <;> kernel_rfl
theorem q1 : tells (normF [1]) (orNil (run20 [] (seqL cd20) (st20 r d v lK ks lC cs nC cK zK cC zC))) = [([], [], some (e20 r d v lK ks lC cs nC cK cC zC []))] := by cases nC <;> kernel_rfl
theorem q2i : (run20 (Hr .ok) (seqL (seqR cd20)) (e20 r d v lK ks lC cs nC cK cC zC [])).isSome = true := by cases nC <;> kernel_rfl
theorem q2s : samesL (orNil (run20 (Hr .ok) (seqL (seqR cd20)) (e20 r d v lK ks lC cs nC cK cC zC []))) = samesR (orNil (run20 (Hr .ok) (seqL (seqR cd20)) (e20 r d v lK ks lC cs nC cK cC zC []))) := by cases nC <;> kernel_rfl
theorem q2 : tells (normF [1, 3]) (orNil (run20 (Hr .ok) (seqL (seqR cd20)) (e20 r d v lK ks lC cs nC cK cC zC []))) = [([], az20 r .ok, some (e20 r d v lK ks lC cs nC cK cC zC [(3, .bool true)]))] := by cases nC <;> kernel_rfl
theorem q3i : (run20 [] (seqL A20) (e20 r d v lK ks lC cs nC cK cC zC [(3, .bool true)])).isSome = true := by cases nC <;> kernel_rfl
theorem q3s : samesL (orNil (run20 [] (seqL A20) (e20 r d v lK ks lC cs nC cK cC zC [(3, .bool true)]))) = samesR (orNil (run20 [] (seqL A20) (e20 r d v lK ks lC cs nC cK cC zC [(3, .bool true)]))) := by cases nC <;> kernel_rfl
theorem q3 : tells (normF [1, 3, 14]) (orNil (run20 [] (seqL A20) (e20 r d v lK ks lC cs nC cK cC zC [(3, .bool true)]))) = [([], [], some (e20 r d v lK ks lC cs nC cK cC zC [(3, .bool true), (14, .int .i64 1)]))] := by cases nC <;> kernel_rfl
theorem q4i : (run20 [] (seqL Y20) (e20 r d v lK ks lC cs nC cK cC zC [(3, .bool true), (14, .int .i64 1)])).isSome = true := by cases nC <;> kernel_rfl
theorem q4s : samesL (orNil (run20 [] (seqL Y20) (e20 r d v lK ks lC cs nC cK cC zC [(3, .bool true), (14, .int .i64 1)]))) = samesR (orNil (run20 [] (seqL Y20) (e20 r d v lK ks lC cs nC cK cC zC [(3, .bool true), (14, .int .i64 1)]))) := by cases nC <;> kernel_rfl
theorem q4 : tells (normF [1, 3, 15]) (orNil (run20 [] (seqL Y20) (e20 r d v lK ks lC cs nC cK cC zC [(3, .bool true), (14, .int .i64 1)]))) = [([], [], some (e20 r d v lK ks lC cs nC cK cC zC [(3, .bool true), (15, .bool true)]))] := by cases nC <;> kernel_rfl
theorem q5i : (run20 H20k (seqL K20) (e20 r d v lK ks lC cs nC cK cC zC [(3, .bool true), (15, .bool true)])).isSome = true := by cases nC <;> kernel_rfl
theorem q5s : samesL (orNil (run20 H20k (seqL K20) (e20 r d v lK ks lC cs nC cK cC zC [(3, .bool true), (15, .bool true)]))) = samesR (orNil (run20 H20k (seqL K20) (e20 r d v lK ks lC cs nC cK cC zC [(3, .bool true), (15, .bool true)]))) := by cases nC <;> kernel_rfl
theorem q5 : tells (normF [1]) (orNil (run20 H20k (seqL K20) (e20 r d v lK ks lC cs nC cK cC zC [(3, .bool true), (15, .bool true)]))) = [([], ak20 r d lK, some (e20 r d v lK ks lC cs nC cK cC zC []))] := by cases nC <;> kernel_rfl
theorem q6i : (run20 [] (seqL X20) (e20 r d v lK ks lC cs nC cK cC zC [])).isSome = true := by cases nC <;> kernel_rfl
theorem q6s : samesL (orNil (run20 [] (seqL X20) (e20 r d v lK ks lC cs nC cK cC zC []))) = samesR (orNil (run20 [] (seqL X20) (e20 r d v lK ks lC cs nC cK cC zC []))) := by cases nC <;> kernel_rfl
theorem q6 : tells (normF [1, 4]) (orNil (run20 [] (seqL X20) (e20 r d v lK ks lC cs nC cK cC zC []))) = [([], [], some (e20 r d v lK ks lC cs nC cK cC zC [(4, .int .i64 (Int.ofNat 0))]))] := by cases nC <;> kernel_rfl

noncomputable abbrev M20l (i : Nat) := run20 (H20l i) B20 (e20 r d v lK ks lC cs nC cK cC zC [(4, .int .i64 (Int.ofNat i))])
theorem l20i (i : Nat) : (M20l r d v lK ks lC cs nC cK cC zC i).isSome = true := by cases nC <;> kernel_rfl
theorem l20s (i : Nat) : samesL (orNil (M20l r d v lK ks lC cs nC cK cC zC i)) = samesR (orNil (M20l r d v lK ks lC cs nC cK cC zC i)) := by cases nC <;> kernel_rfl
theorem l20 (i : Nat) : tells (roundF Try.prog (cfS S9) 1000 Try.f20 [1, 4]) (orNil (M20l r d v lK ks lC cs nC cK cC zC i)) =
    [([(decide (Int.ofNat i < Int.ofNat lK), true), (decide (atx ks i < -4096), true)], [ix lK i, ld ks i], .ret (.bool false)),
     ([(decide (Int.ofNat i < Int.ofNat lK), true), (decide (atx ks i < -4096), false), (decide (atx ks i > 4096), true)], [ix lK i, ld ks i, ix lK i, ld ks i], .ret (.bool false)),
     ([(decide (Int.ofNat i < Int.ofNat lK), true), (decide (atx ks i < -4096), false), (decide (atx ks i > 4096), false)], [ix lK i, ld ks i, ix lK i, ld ks i, V.int .i64 (IntKind.i64.wrap (Int.ofNat i + 1)) = V.int .i64 (Int.ofNat (i + 1))], .next (e20 r d v lK ks lC cs nC cK cC zC [(4, .int .i64 (Int.ofNat (i + 1)))])),
     ([(decide (Int.ofNat i < Int.ofNat lK), false)], [], .exit 1 (e20 r d v lK ks lC cs nC cK cC zC [(4, .int .i64 (Int.ofNat i))]))] := by cases nC <;> kernel_rfl
noncomputable abbrev Z20 (i : Nat) := run20 [] (seqR (seqR K20)) (e20 r d v lK ks lC cs nC cK cC zC [(4, .int .i64 (Int.ofNat i))])
theorem z20i (i : Nat) : (Z20 r d v lK ks lC cs nC cK cC zC i).isSome = true := by cases nC <;> kernel_rfl
theorem z20s (i : Nat) : samesL (orNil (Z20 r d v lK ks lC cs nC cK cC zC i)) = samesR (orNil (Z20 r d v lK ks lC cs nC cK cC zC i)) := by cases nC <;> kernel_rfl
theorem z20 (i : Nat) : tells (retX Try.prog (cfS S9) 1000 Try.f20) (orNil (Z20 r d v lK ks lC cs nC cK cC zC i)) = [([], fa20 lK ks (ln nC lC) (rw' nC cs), some (.bool (plainB true false false true r d v lK (ln nC lC))))] := by cases nC <;> kernel_rfl
end

theorem badB_at {ks : List Int} {l i : Nat} (hi : i < l) (h : outB (at0 ks i) = true) : badB l ks = true := by
  have : ∃ j, j ≤ i ∧ outB (at0 ks j) = true ∧ ∀ t, t < j → outB (at0 ks t) = false := by
    have key : ∀ n, ∀ i, i ≤ n → outB (at0 ks i) = true → ∃ j, j ≤ i ∧ outB (at0 ks j) = true ∧ ∀ t, t < j → outB (at0 ks t) = false := by
      intro n
      induction n with
      | zero => intro i hi h; exact ⟨i, Nat.le_refl _, h, fun t ht => by omega⟩
      | succ n ih =>
        intro i hi h
        by_cases q : ∃ t, t < i ∧ outB (at0 ks t) = true
        · obtain ⟨t, h1, h2⟩ := q
          obtain ⟨j, k1, k2, k3⟩ := ih t (by omega) h2
          exact ⟨j, by omega, k2, k3⟩
        · refine ⟨i, Nat.le_refl _, h, fun t ht => ?_⟩
          cases hb : outB (at0 ks t) with
          | false => rfl
          | true => exact absurd ⟨t, ht, hb⟩ q
    exact key i i (Nat.le_refl _) h
  obtain ⟨j, h1, h2, h3⟩ := this
  unfold badB
  rw [idxOut_at (by omega) h2 h3]
  exact decide_eq_true (Int.natCast_nonneg j)
theorem badB_none {ks : List Int} {l : Nat} (h : ∀ i, i < l → outB (at0 ks i) = false) : badB l ks = false := by
  unfold badB
  rw [idxOut_none h]
  rfl

theorem side_sq {r : Int} (h : 0 ≤ r ∧ r ≤ 3) : w64 (side r * side r) = (2 * r + 1) * (2 * r + 1) := by
  have : r = 0 ∨ r = 1 ∨ r = 2 ∨ r = 3 := by omega
  rcases this with rfl | rfl | rfl | rfl <;> rfl

theorem valid1 {r d v : Int} {lK : Nat} {ks : List Int} {lC : Nat} {cs : List Int} : validB 1 r d v lK ks lC cs = (within r 0 3 && (decide (Int.ofNat lK = w64 (side r * side r)) && (within d 1 1048576 && (!(badB lK ks) && (decide (v = 0) && nat0 lC))))) := by
  simp [validB, chV, chB]

theorem plain1 {r d v : Int} {lK lC : Nat} : plainB true false false true r d v lK lC = (decide (v = 0) && nat0 lC) := by
  simp [plainB, ch37, tst, chB, nat0]

theorem t20ok (r d v : Int) (lK : Nat) (ks : List Int) (lC : Nat) (cs : List Int) (nC : Bool) (cK zK cC zC : Nat) (w0 : World) (hr : rcIs r .ok) (hs : Int.ofNat lK = w64 (side r * side r)) (hd : 1 ≤ d ∧ d ≤ 1048576) (h1 : lK ≤ ks.length) (h2 : lK ≤ 1000) (h3 : ln nC lC ≤ (rw' nC cs).length) (h4 : ln nC lC ≤ 1000) :
    T Try.prog Try.f20.ntmps w0 cd20 (st20 r d v lK ks lC cs nC cK zK cC zC) (RetQ Try.prog (cfS S9) 1000 Try.f20 (.bool (validB 1 r d v lK ks (ln nC lC) (rw' nC cs)))) := by
  have hw : within r 0 3 = true := by simp [within, hr.1, hr.2]
  have hwd : within d 1 1048576 = true := by simp [within, hd.1, hd.2]
  have hsd : decide (Int.ofNat lK = w64 (side r * side r)) = true := decide_eq_true hs
  refine T_next (cS S9_ok) mo _ 1000 [1] _ _ (by kernel_rfl) (by kernel_rfl) (q1i r d v lK ks lC cs nC cK zK cC zC) (q1s r d v lK ks lC cs nC cK zK cC zC) (q1 r d v lK ks lC cs nC cK zK cC zC) (by simp) ?_
  refine T_next (cS S9_ok) mo _ 1000 [1, 3] _ _ (by kernel_rfl) (by kernel_rfl) (q2i r d v lK ks lC cs nC cK cC zC) (q2s r d v lK ks lC cs nC cK cC zC) (q2 r d v lK ks lC cs nC cK cC zC) (az20_ok hr) ?_
  refine T_seq' (by kernel_rfl) ?_
  refine T_next (cS S9_ok) mo _ 1000 [1, 3, 14] _ _ (by kernel_rfl) (by kernel_rfl) (q3i r d v lK ks lC cs nC cK cC zC) (q3s r d v lK ks lC cs nC cK cC zC) (q3 r d v lK ks lC cs nC cK cC zC) (by simp) ?_
  refine T_block (i := 0) (by kernel_rfl) ?_
  refine T_next (cS S9_ok) mo _ 1000 [1, 3, 15] _ _ (by kernel_rfl) (by kernel_rfl) (q4i r d v lK ks lC cs nC cK cC zC) (q4s r d v lK ks lC cs nC cK cC zC) (q4 r d v lK ks lC cs nC cK cC zC) (by simp) ?_
  refine T_cond (t := true) (by kernel_rfl) (by cases nC <;> kernel_rfl) (fun _ => ?_) (fun h => by cases h)
  refine T_next (cS S9_ok) mo _ 1000 [1] _ _ (by kernel_rfl) (by kernel_rfl) (q5i r d v lK ks lC cs nC cK cC zC) (q5s r d v lK ks lC cs nC cK cC zC) (q5 r d v lK ks lC cs nC cK cC zC) ?_ ?_
  · unfold ak20
    simp only [List.mem_cons, List.not_mem_nil, or_false]
    rintro a (rfl | rfl | rfl)
    · unfold isB; rw [hsd]; rfl
    · exact isB_false (by omega)
    · exact isB_false (by omega)
  refine T_seq' (by kernel_rfl) ?_
  refine T_next (cS S9_ok) mo _ 1000 [1, 4] _ _ (by kernel_rfl) (by kernel_rfl) (q6i r d v lK ks lC cs nC cK cC zC) (q6s r d v lK ks lC cs nC cK cC zC) (q6 r d v lK ks lC cs nC cK cC zC) (by simp) ?_
  refine T_block (i := 1) (by kernel_rfl) ?_
  refine T_rounds (cS S9_ok) mo H20l 1000 Try.f20 [1, 4] (fun k s => ∃ i, k = lK - i ∧ i ≤ lK ∧ s = e20 r d v lK ks lC cs nC cK cC zC [(4, .int .i64 (Int.ofNat i))] ∧ ∀ j, j < i → outB (at0 ks j) = false) (by kernel_rfl) (by kernel_rfl) ?_ lK ⟨0, rfl, Nat.zero_le _, rfl, fun j hj => absurd hj (by omega)⟩
  rintro k s ⟨i, hk, hi, rfl, hall⟩
  refine ⟨i, _, l20i r d v lK ks lC cs nC cK cC zC i, l20s r d v lK ks lC cs nC cK cC zC i, l20 r d v lK ks lC cs nC cK cC zC i, fun g hg hc => ?_⟩
  simp only [List.mem_cons, List.not_mem_nil, or_false] at hg
  have hx : ∀ j, atx ks j = at0 ks j := fun j => at00 ks j
  have hix : ∀ j, j < lK → ix lK j := fun j hj => in_ofNat hj
  have hld : ∀ j, j < lK → ld ks j := fun j hj => by unfold ld; omega
  have bad : ∀ {i}, i < lK → (at0 ks i < -4096 ∨ at0 ks i > 4096) → validB 1 r d v lK ks (ln nC lC) (rw' nC cs) = false := by
    intro i hil ho
    have : outB (at0 ks i) = true := by
      rcases ho with ho | ho
      · have h1 : ¬ (-4096 ≤ at0 ks i) := by omega
        simp [outB, within, h1]
      · have h1 : ¬ (at0 ks i ≤ 4096) := by omega
        simp [outB, within, h1]
    rw [valid1, badB_at hil this]; simp
  rcases hg with rfl | rfl | rfl | rfl
  · have hil := lt_ofNat (hc _ (List.mem_cons_self ..))
    have h5 : decide (atx ks i < -4096) = true := hc (decide (atx ks i < -4096), true) (List.mem_cons_of_mem _ (List.mem_cons_self ..))
    rw [hx, decide_eq_true_eq] at h5
    refine ⟨?_, fun s' hq => ?_⟩
    · simp only [List.mem_cons, List.not_mem_nil, or_false]
      rintro a (rfl | rfl) <;> first | exact hix i hil | exact hld i hil
    · rw [← bad hil (.inl h5)] at hq; exact hq
  · have hil := lt_ofNat (hc _ (List.mem_cons_self ..))
    have h5 : decide (atx ks i > 4096) = true := hc (decide (atx ks i > 4096), true) (List.mem_cons_of_mem _ (List.mem_cons_of_mem _ (List.mem_cons_self ..)))
    rw [hx, decide_eq_true_eq] at h5
    refine ⟨?_, fun s' hq => ?_⟩
    · simp only [List.mem_cons, List.not_mem_nil, or_false]
      rintro a (rfl | rfl | rfl | rfl) <;> first | exact hix i hil | exact hld i hil
    · rw [← bad hil (.inr h5)] at hq; exact hq
  · have hil := lt_ofNat (hc _ (List.mem_cons_self ..))
    have h5 : decide (atx ks i < -4096) = false := hc (decide (atx ks i < -4096), false) (List.mem_cons_of_mem _ (List.mem_cons_self ..))
    have h6 : decide (atx ks i > 4096) = false := hc (decide (atx ks i > 4096), false) (List.mem_cons_of_mem _ (List.mem_cons_of_mem _ (List.mem_cons_self ..)))
    rw [hx, decide_eq_false_iff_not] at h5 h6
    refine ⟨?_, lK - (i + 1), by omega, i + 1, rfl, hil, rfl, fun j hj => ?_⟩
    · simp only [List.mem_cons, List.not_mem_nil, or_false]
      rintro a (rfl | rfl | rfl | rfl | rfl) <;> first | exact hix i hil | exact hld i hil | exact up_ok (by omega)
    · by_cases hji : j = i
      · subst hji
        have k1 : -4096 ≤ at0 ks j := by omega
        have k2 : at0 ks j ≤ 4096 := by omega
        simp [outB, within, k1, k2]
      · exact hall j (by omega)
  · have hil := nlt_ofNat (hc _ (List.mem_cons_self ..))
    refine ⟨by simp, fun s' hs' => ?_⟩
    have hil : i = lK := by omega
    subst hil
    simp only [outOf, if_true, andThen]
    refine T_norm hs' (T_retX S9_ok [] Try.f20 (.bool (validB 1 r d v i ks (ln nC lC) (rw' nC cs))) _ (by kernel_rfl) (z20i r d v i ks lC cs nC cK cC zC i) (z20s r d v i ks lC cs nC cK cC zC i) (z20 r d v i ks lC cs nC cK cC zC i) ?_ ?_)
    · intro g hg _
      rw [List.mem_singleton.1 hg]
      refine ⟨?_, ?_⟩
      · unfold fa20
        simp only [List.mem_cons, List.not_mem_nil, or_false]
        rintro a (rfl | rfl | rfl | rfl) <;> assumption
      · simp only
        rw [valid1, plain1, hw, hsd, hwd, badB_none hall]; rfl
    · exact fun s' hq => hq

theorem valid_rc {k r d v : Int} {lK : Nat} {ks : List Int} {lC : Nat} {cs : List Int} (hk : k = 1 ∨ k = 2 ∨ k = 3 ∨ k = 4) {rc : RC} (h : rcIs r rc) (hn : okB rc = false) : validB k r d v lK ks lC cs = false := by
  have hw : within r 0 3 = false := by
    cases rc with
    | ok => cases hn
    | hi => have h : 3 < r := h
            have : ¬ r ≤ 3 := by omega
            simp [within, this]
    | lo => have h : r < 0 := h
            have : ¬ 0 ≤ r := by omega
            simp [within, this]
  rcases hk with rfl | rfl | rfl | rfl <;> simp [validB, chV, chB, hw]

theorem fa20_ok {lK : Nat} {ks : List Int} {lC : Nat} {cs : List Int} (h1 : lK ≤ ks.length) (h2 : lK ≤ 1000) (h3 : lC ≤ cs.length) (h4 : lC ≤ 1000) : ∀ a ∈ fa20 lK ks lC cs, a := by
  unfold fa20
  simp only [List.mem_cons, List.not_mem_nil, or_false]
  rintro a (rfl | rfl | rfl | rfl) <;> assumption

theorem bool_ext {a b : Bool} (h : a = true ↔ b = true) : a = b := by cases a <;> cases b <;> simp_all

theorem G20_ok (k : Nat) (hk : k = 2 ∨ k = 3 ∨ k = 4 ∨ k = 5 ∨ k = 6 ∨ k = 7 ∨ k = 8) {rc : RC} {r d v : Int} {lK : Nat} {ks : List Int} {lC : Nat} {cs : List Int} (hr : rcIs r rc) (h1 : lK ≤ ks.length) (h2 : lK ≤ 1000) (h3 : lC ≤ cs.length) (h4 : lC ≤ 1000) :
    ∀ g ∈ G20 k rc r d v lK ks lC cs, (∀ b ∈ g.1, b.1 = b.2) → (∀ a ∈ g.2.1, a) ∧ g.2.2 = some (.bool (validB k r d v lK ks lC cs)) := by
  have hfa := fa20_ok h1 h2 h3 h4
  have haz := az20_ok hr
  have low : ∀ g, g ∈ (match rc with
    | .ok => [([], az20 r .ok ++ fa20 lK ks lC cs, some (V.bool (plainB false false false true r d v lK lC)))]
    | rc => [(([] : List (Bool × Bool)), az20 r rc, some (V.bool false))]) → (k = 2 ∨ k = 3 ∨ k = 4) → (∀ a ∈ g.2.1, a) ∧ g.2.2 = some (.bool (validB k r d v lK ks lC cs)) := by
    intro g hg hk
    cases rc with
    | ok =>
      simp only [List.mem_singleton] at hg; subst hg
      refine ⟨fun a ha => (List.mem_append.1 ha).elim (haz a) (hfa a), ?_⟩
      have hw : within r 0 3 = true := by simp [within, hr.1, hr.2]
      congr 2
      rcases hk with rfl | rfl | rfl <;> simp [validB, chV, chB, hw, plainB, ch37, tst, nat0] <;> apply bool_ext <;> simp <;> omega
    | hi =>
      simp only [List.mem_singleton] at hg; subst hg
      exact ⟨haz, by rw [valid_rc (by omega) hr rfl]⟩
    | lo =>
      simp only [List.mem_singleton] at hg; subst hg
      exact ⟨haz, by rw [valid_rc (by omega) hr rfl]⟩
  intro g hg hc
  rcases hk with rfl | rfl | rfl | rfl | rfl | rfl | rfl
  · exact low g hg (by omega)
  · exact low g hg (by omega)
  · exact low g hg (by omega)
  · have := chP_ok _ _ hfa _ [] _ haz (by intro x hx a ha; simp only [List.mem_singleton] at hx; subst hx; simp only [List.mem_cons, List.not_mem_nil, or_false] at ha; rcases ha with rfl | rfl <;> assumption) g hg hc
    refine ⟨this.1, this.2.trans ?_⟩
    congr 2
    simp [validB, chV, chB, plainB, ch37, tst, nat0]
    apply bool_ext; simp; omega
  · have := chP_ok _ _ hfa _ [] _ haz (by simp) g hg hc
    refine ⟨this.1, this.2.trans ?_⟩
    congr 2
    simp [validB, chV, chB, plainB, ch37, tst, nat0]
    apply bool_ext; simp; omega
  · have := chP_ok _ _ hfa _ [] _ haz (by simp) g hg hc
    refine ⟨this.1, this.2.trans ?_⟩
    congr 2
    simp [validB, chV, chB, plainB, ch37, tst, nat0, within]
    apply bool_ext; simp; omega
  · have := chP_ok _ _ hfa _ [] _ haz (by simp) g hg hc
    refine ⟨this.1, this.2.trans ?_⟩
    congr 2
    simp [validB, chV, chB, plainB, ch37, tst, nat0, within]
    apply bool_ext; simp; omega

theorem p20 : PureA Try.prog 20 (specF R21) := by
  refine pureF S9_ok (Nat.le_of_ble_eq_true (by kernel_rfl)) Try.func20 (code := bodyOf Try.f20) (by kernel_rfl) (fun k r d v lK ks lC cs X u e => ?_) (fun k r d v lK ks lC cs X u nK nC cK zK cC zC e h1 h2 h3 h4 w0 => ?_)
  · unfold R21 at e
    split at e
    · simp only [Option.some.injEq] at e; subst e
      exact ⟨rfl, rfl, by kernel_rfl⟩
    · cases e
  · unfold R21 at e
    split at e
    · simp only [Option.some.injEq] at e; subst e
      have hcode : codeOk Try.f20.ntmps (bodyOf Try.f20) = true := by kernel_rfl
      obtain ⟨rc, hr⟩ := rc_of r
      have fail : ∀ (A : List Prop) (g : List (Bool × Bool) × List Prop × Option V), g ∈ [(([] : List (Bool × Bool)), A, some (V.bool false))] → (∀ a ∈ A, a) → validB 1 r d v (ln nK lK) (rw' nK ks) (ln nC lC) (rw' nC cs) = false → (∀ a ∈ g.2.1, a) ∧ g.2.2 = some (.bool (validB 1 r d v (ln nK lK) (rw' nK ks) (ln nC lC) (rw' nC cs))) := by
        intro A g hg hA hf
        rw [List.mem_singleton.1 hg, hf]
        exact ⟨hA, rfl⟩
      rcases kinds k with rfl | rfl | rfl | rfl | rfl | rfl | rfl | rfl | ho
      · cases rc with
        | hi => exact T_ret (cS S9_ok) mo _ 1000 Try.f20 _ _ hcode (ok20_1hi r d v lK ks lC cs nK nC cK zK cC zC) (sm20_1hi r d v lK ks lC cs nK nC cK zK cC zC) (hr20_1hi r d v lK ks lC cs nK nC cK zK cC zC) (fun g hg _ => fail _ g hg (az20_ok hr) (valid_rc (.inl rfl) hr rfl))
        | lo => exact T_ret (cS S9_ok) mo _ 1000 Try.f20 _ _ hcode (ok20_1lo r d v lK ks lC cs nK nC cK zK cC zC) (sm20_1lo r d v lK ks lC cs nK nC cK zK cC zC) (hr20_1lo r d v lK ks lC cs nK nC cK zK cC zC) (fun g hg _ => fail _ g hg (az20_ok hr) (valid_rc (.inl rfl) hr rfl))
        | ok =>
          have haz := az20_ok hr
          by_cases hs : Int.ofNat (ln nK lK) = w64 (side r * side r)
          · have hsd : decide (Int.ofNat (ln nK lK) = w64 (side r * side r)) = true := decide_eq_true hs
            by_cases hd1 : d < 1
            · have hn : ¬ 1 ≤ d := by omega
              refine T_ret (cS S9_ok) mo _ 1000 Try.f20 _ _ hcode (ok20_1b r d v lK ks lC cs nK nC cK zK cC zC) (sm20_1b r d v lK ks lC cs nK nC cK zK cC zC) (hr20_1b r d v lK ks lC cs nK nC cK zK cC zC) (fun g hg _ => fail _ g hg ?_ (by rw [valid1]; simp [within, hn]))
              intro a ha
              rcases List.mem_append.1 ha with ha | ha
              · exact haz a ha
              · simp only [List.mem_cons, List.not_mem_nil, or_false] at ha
                rcases ha with rfl | rfl
                · unfold isB; rw [hsd]; rfl
                · exact isB_true hd1
            · by_cases hd2 : d > 1048576
              · have hn : ¬ d ≤ 1048576 := by omega
                refine T_ret (cS S9_ok) mo _ 1000 Try.f20 _ _ hcode (ok20_1c r d v lK ks lC cs nK nC cK zK cC zC) (sm20_1c r d v lK ks lC cs nK nC cK zK cC zC) (hr20_1c r d v lK ks lC cs nK nC cK zK cC zC) (fun g hg _ => fail _ g hg ?_ (by rw [valid1]; simp [within, hn]))
                intro a ha
                rcases List.mem_append.1 ha with ha | ha
                · exact haz a ha
                · simp only [List.mem_cons, List.not_mem_nil, or_false] at ha
                  rcases ha with rfl | rfl | rfl
                  · unfold isB; rw [hsd]; rfl
                  · exact isB_false hd1
                  · exact isB_true hd2
              · cases nK with
                | true =>
                  exfalso
                  rw [side_sq hr] at hs
                  have hs : (0 : Int) = (2 * r + 1) * (2 * r + 1) := hs
                  have h0 : 0 ≤ r := hr.1
                  have : (2 * r + 1) * (2 * r + 1) ≥ 1 * 1 := Int.mul_le_mul (by omega) (by omega) (by omega) (by omega)
                  omega
                | false => exact t20ok r d v lK ks lC cs nC cK zK cC zC w0 hr hs ⟨by omega, by omega⟩ h1 h2 h3 h4
          · have hsd : decide (Int.ofNat (ln nK lK) = w64 (side r * side r)) = false := decide_eq_false hs
            refine T_ret (cS S9_ok) mo _ 1000 Try.f20 _ _ hcode (ok20_1a r d v lK ks lC cs nK nC cK zK cC zC) (sm20_1a r d v lK ks lC cs nK nC cK zK cC zC) (hr20_1a r d v lK ks lC cs nK nC cK zK cC zC) (fun g hg _ => fail _ g hg ?_ (by rw [valid1, hsd]; simp))
            intro a ha
            rcases List.mem_append.1 ha with ha | ha
            · exact haz a ha
            · simp only [List.mem_cons, List.not_mem_nil, or_false] at ha
              subst ha
              unfold isB; rw [hsd]; rfl
      · exact T_ret (cS S9_ok) mo _ 1000 Try.f20 _ _ hcode (ok20_2 rc r d v lK ks lC cs nK nC cK zK cC zC) (sm20_2 rc r d v lK ks lC cs nK nC cK zK cC zC) (hr20_2 rc r d v lK ks lC cs nK nC cK zK cC zC) (G20_ok 2 (by omega) hr h1 h2 h3 h4)
      · exact T_ret (cS S9_ok) mo _ 1000 Try.f20 _ _ hcode (ok20_3 rc r d v lK ks lC cs nK nC cK zK cC zC) (sm20_3 rc r d v lK ks lC cs nK nC cK zK cC zC) (hr20_3 rc r d v lK ks lC cs nK nC cK zK cC zC) (G20_ok 3 (by omega) hr h1 h2 h3 h4)
      · exact T_ret (cS S9_ok) mo _ 1000 Try.f20 _ _ hcode (ok20_4 rc r d v lK ks lC cs nK nC cK zK cC zC) (sm20_4 rc r d v lK ks lC cs nK nC cK zK cC zC) (hr20_4 rc r d v lK ks lC cs nK nC cK zK cC zC) (G20_ok 4 (by omega) hr h1 h2 h3 h4)
      · exact T_ret (cS S9_ok) mo _ 1000 Try.f20 _ _ hcode (ok20_5 rc r d v lK ks lC cs nK nC cK zK cC zC) (sm20_5 rc r d v lK ks lC cs nK nC cK zK cC zC) (hr20_5 rc r d v lK ks lC cs nK nC cK zK cC zC) (G20_ok 5 (by omega) hr h1 h2 h3 h4)
      · exact T_ret (cS S9_ok) mo _ 1000 Try.f20 _ _ hcode (ok20_6 rc r d v lK ks lC cs nK nC cK zK cC zC) (sm20_6 rc r d v lK ks lC cs nK nC cK zK cC zC) (hr20_6 rc r d v lK ks lC cs nK nC cK zK cC zC) (G20_ok 6 (by omega) hr h1 h2 h3 h4)
      · exact T_ret (cS S9_ok) mo _ 1000 Try.f20 _ _ hcode (ok20_7 rc r d v lK ks lC cs nK nC cK zK cC zC) (sm20_7 rc r d v lK ks lC cs nK nC cK zK cC zC) (hr20_7 rc r d v lK ks lC cs nK nC cK zK cC zC) (G20_ok 7 (by omega) hr h1 h2 h3 h4)
      · exact T_ret (cS S9_ok) mo _ 1000 Try.f20 _ _ hcode (ok20_8 rc r d v lK ks lC cs nK nC cK zK cC zC) (sm20_8 rc r d v lK ks lC cs nK nC cK zK cC zC) (hr20_8 rc r d v lK ks lC cs nK nC cK zK cC zC) (G20_ok 8 (by omega) hr h1 h2 h3 h4)
      · rw [validB_o r d v _ _ _ _ ho]
        refine T_ret (cS S9_ok) mo _ 1000 Try.f20 _ _ hcode (ok20_o rc k r d v lK ks lC cs nK nC cK zK cC zC) (sm20_o rc k r d v lK ks lC cs nK nC cK zK cC zC) (hr20_o rc k r d v lK ks lC cs nK nC cK zK cC zC) ?_
        intro g hg _
        rw [List.mem_singleton.1 hg]
        refine ⟨?_, rfl⟩
        intro a ha
        rcases List.mem_append.1 ha with ha | ha
        · exact az20_ok hr a ha
        · simp only [List.mem_cons, List.not_mem_nil, or_false] at ha
          rcases ha with rfl | rfl | rfl | rfl | rfl | rfl | rfl | rfl <;> exact notK_of (by omega)
    · cases e

abbrev S10 : Ctr := addS 20 (specF R21) (addS 21 (specF R21) S9)
theorem S10_ok : CtrOk Try.prog S10 := addS_ok p20 (addS_ok p21 S9_ok)
end Go.Proofs.Ytpkpcnohnlhjlaa
