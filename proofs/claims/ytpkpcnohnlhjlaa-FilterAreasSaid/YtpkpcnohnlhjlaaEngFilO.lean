/- Filter laws, part O: FilterAreas, the whole function. No conditions. -/
import Derived.Test.YtpkpcnohnlhjlaaEngFilN
import Derived.Test.YtpkpcnohnlhjlaaEngFour
namespace Go.Proofs.Ytpkpcnohnlhjlaa
open Go Go.Eng

/-! ### the plain law -/
def insEq (vb : Bool) (k r v dx dy : Int) : Bool := !(insideB dx dy (dx + 1) (dy + 1) (areaQ vb k r v 0 0 1 1 (-1)).1 (areaQ vb k r v 0 0 1 1 (-1)).2.1 (areaQ vb k r v 0 0 1 1 (-1)).2.2.1 (areaQ vb k r v 0 0 1 1 (-1)).2.2.2 ==
    insideB 0 0 1 1 (areaQ vb k r v dx dy (dx + 1) (dy + 1) 1).1 (areaQ vb k r v dx dy (dx + 1) (dy + 1) 1).2.1 (areaQ vb k r v dx dy (dx + 1) (dy + 1) 1).2.2.1 (areaQ vb k r v dx dy (dx + 1) (dy + 1) 1).2.2.2)
def fineB (k r v : Int) : Bool := nine.all fun dy => nine.all fun dx => !(insEq true k r v dx dy)
theorem fine_grow : ([1, 2, 3, 4] : List Int).all (fun k => ([0, 1, 2, 3] : List Int).all fun r => fineB k r 0) = true := by decide +kernel
theorem fine_move : ([-3, -2, -1, 0, 1, 2, 3] : List Int).all (fun r => ([-3, -2, -1, 0, 1, 2, 3] : List Int).all fun v => fineB 8 r v) = true := by decide +kernel
theorem fine_same : fineB 0 0 0 = true := by decide +kernel
theorem fine_off : (nine.all fun dy => nine.all fun dx => !(insEq false 0 0 0 dx dy)) = true := by decide +kernel

theorem areaQ_off (k r v x0 y0 x1 y1 sg : Int) : areaQ false k r v x0 y0 x1 y1 sg = zeroQ := by simp [areaQ]
theorem areaQ_grow {k : Int} (hk : within k 1 4 = true) (r v x0 y0 x1 y1 sg : Int) : areaQ true k r v x0 y0 x1 y1 sg = areaQ true k r 0 x0 y0 x1 y1 sg := by simp [areaQ, hk]
theorem areaQ_same {k : Int} (hk : within k 1 4 = false) (h8 : k ≠ 8) (r v x0 y0 x1 y1 sg : Int) : areaQ true k r v x0 y0 x1 y1 sg = areaQ true 0 0 0 x0 y0 x1 y1 sg := by
  have : within 0 1 4 = false := by decide
  simp [areaQ, hk, h8, this]

theorem fine_insEq {k r v : Int} (h : fineB k r v = true) : ∀ dy ∈ nine, ∀ dx ∈ nine, insEq true k r v dx dy = false := by
  intro dy hy dx hx
  have := List.all_eq_true.1 (List.all_eq_true.1 h dy hy) dx hx
  simpa using this

theorem within_iff {x a b : Int} : within x a b = true ↔ a ≤ x ∧ x ≤ b := by simp [within]
theorem insEq_ok {vb : Bool} {k r v : Int} (h1 : vb = true → within k 1 4 = true → within r 0 3 = true) (h2 : vb = true → k = 8 → within r (-3) 3 = true ∧ within v (-3) 3 = true) : ∀ dy ∈ nine, ∀ dx ∈ nine, insEq vb k r v dx dy = false := by
  cases vb with
  | false =>
    intro dy hy dx hx
    have := List.all_eq_true.1 (List.all_eq_true.1 fine_off dy hy) dx hx
    have e : insEq false 0 0 0 dx dy = false := by simpa using this
    simp only [insEq, areaQ_off] at e ⊢
    exact e
  | true =>
    by_cases hk : within k 1 4 = true
    · have hr := within_iff.1 (h1 rfl hk)
      have hk' := within_iff.1 hk
      have kc : k ∈ ([1, 2, 3, 4] : List Int) := by
        have : k = 1 ∨ k = 2 ∨ k = 3 ∨ k = 4 := by omega
        simpa using this
      have rc : r ∈ ([0, 1, 2, 3] : List Int) := by
        have : r = 0 ∨ r = 1 ∨ r = 2 ∨ r = 3 := by omega
        simpa using this
      have f := fine_insEq (List.all_eq_true.1 (List.all_eq_true.1 fine_grow k kc) r rc)
      intro dy hy dx hx
      have e := f dy hy dx hx
      simp only [insEq] at e ⊢
      rw [areaQ_grow hk r v, areaQ_grow hk r v]
      exact e
    · have hk : within k 1 4 = false := by simpa using hk
      by_cases h8 : k = 8
      · subst h8
        obtain ⟨hr, hv⟩ := h2 rfl rfl
        have hr := within_iff.1 hr
        have hv := within_iff.1 hv
        have rc : r ∈ ([-3, -2, -1, 0, 1, 2, 3] : List Int) := by
          have : r = -3 ∨ r = -2 ∨ r = -1 ∨ r = 0 ∨ r = 1 ∨ r = 2 ∨ r = 3 := by omega
          simpa using this
        have vc : v ∈ ([-3, -2, -1, 0, 1, 2, 3] : List Int) := by
          have : v = -3 ∨ v = -2 ∨ v = -1 ∨ v = 0 ∨ v = 1 ∨ v = 2 ∨ v = 3 := by omega
          simpa using this
        exact fine_insEq (List.all_eq_true.1 (List.all_eq_true.1 fine_move r rc) v vc)
      · have f := fine_insEq fine_same
        intro dy hy dx hx
        have e := f dy hy dx hx
        simp only [insEq] at e ⊢
        rw [areaQ_same hk h8 r v, areaQ_same hk h8 r v]
        exact e

theorem valid_grow {k r d v : Int} {lK : Nat} {ks : List Int} {lC : Nat} {cs : List Int} (h : validB k r d v lK ks lC cs = true) (hk : within k 1 4 = true) : within r 0 3 = true := by
  have hk' := within_iff.1 hk
  have : k = 1 ∨ k = 2 ∨ k = 3 ∨ k = 4 := by omega
  rcases this with rfl | rfl | rfl | rfl <;> simp [validB, chV, chB] at h <;> exact h.1
theorem valid_move {r d v : Int} {lK : Nat} {ks : List Int} {lC : Nat} {cs : List Int} (h : validB 8 r d v lK ks lC cs = true) : within r (-3) 3 = true ∧ within v (-3) 3 = true := by
  simp [validB, chV, chB] at h; exact ⟨h.1, h.2.1⟩

theorem all81_ok {fa : List Prop} {vb : Bool} {k r v : Int} (h : ∀ a ∈ fa, a) (h2 : ∀ dy ∈ nine, ∀ dx ∈ nine, insEq vb k r v dx dy = false) : ∀ a ∈ all81 fa vb k r v, a := by
  intro a ha
  simp only [all81, List.mem_flatMap, List.mem_append, List.mem_singleton] at ha
  obtain ⟨dy, hy, dx, hx, (ha | ha) | rfl⟩ := ha
  · exact h a ha
  · exact h a ha
  · have e := h2 dy hy dx hx
    unfold insEq at e
    unfold insA
    rw [e]

/-! ### the walk -/
theorem min_ok {lim : Nat} {l : Nat} : minP (Int.ofNat lim) l (min lim l) := by
  unfold minP
  by_cases h : (Int.ofNat lim) < Int.ofNat l
  · rw [if_pos h]
    have : lim < l := Int.ofNat_lt.1 h
    rw [Nat.min_eq_left (Nat.le_of_lt this)]
  · rw [if_neg h]
    have : ¬ lim < l := fun q => h (Int.ofNat_lt.2 q)
    rw [Nat.min_eq_right (Nat.le_of_not_lt this)]
theorem cap_ok {b : Bool} {m c : Nat} (h : m ≤ c) : ∀ a ∈ capL b m c, a := by
  intro a ha
  cases b <;> simp only [capL, List.mem_singleton] at ha <;> subst ha
  · exact ⟨by simp, by simpa using h⟩
  · exact ⟨by simp, by simp⟩

section
variable (k r d v : Int) (lK : Nat) (ks : List Int) (lC : Nat) (cs : List Int) (n : Nat) (ss : List Int) (x0 y0 x1 y1 : Int) (nK nC nS : Bool) (cK zK cC zC cz zS : Nat) (w0 : World)
abbrev RQ : Exit → St → Prop := RetQ Try.prog (cfS S13) 1000 Try.f3 (.bool true)

theorem tL (gk gr gd gw : Int) (sh : GS) (l c c1 z1 c2 z2 : Nat) (gs : List Int) (hg : gs.length = l) (hl : l ≤ 300) : T Try.prog Try.f3.ntmps w0 T8 (PL gk gr gd gw sh l c c1 z1 c2 z2 gs) RQ := by
  refine T_ret (cS S13_ok) mo H3 1000 Try.f3 _ _ (by kernel_rfl) (P3i gk gr gd gw sh l c c1 z1 c2 z2 gs) (P3s gk gr gd gw sh l c c1 z1 c2 z2 gs) (P3 gk gr gd gw sh l c c1 z1 c2 z2 gs) (oneG (all81_ok ?_ ?_))
  · cases sh <;> exact fa20_ok (by simp [glK, grK, hg]) (by simp [glK]; try omega) (by simp [glC, grC, hg]) (by simp [glC]; try omega)
  · exact insEq_ok (fun h hk => valid_grow h hk) (fun h h8 => by subst h8; exact valid_move h)

theorem tG (mK mC : Nat) (gk gr gd gw : Int) (sh : GS) (l c c1 z1 c2 z2 : Nat) (gs : List Int) (h1 : mK ≤ 60) (h2 : nK = false → mK ≤ ks.length) (h3 : mC ≤ 300) (h4 : nC = false → mC ≤ cs.length) (hg : gs.length = l) (hl : l ≤ 300) :
    T Try.prog Try.f3.ntmps w0 T5 (PG k r d v ks cs x0 y0 x1 y1 nK nC cK zK cC zC mK mC gk gr gd gw sh l c c1 z1 c2 z2 gs) RQ := by
  refine T_nextN 3 (cS S13_ok) mo H2 1000 [8, 7] (by kernel_rfl) ⟨P2i k r d v ks cs x0 y0 x1 y1 nK nC cK zK cC zC mK mC gk gr gd gw sh l c c1 z1 c2 z2 gs, P2s k r d v ks cs x0 y0 x1 y1 nK nC cK zK cC zC mK mC gk gr gd gw sh l c c1 z1 c2 z2 gs, P2 k r d v ks cs x0 y0 x1 y1 nK nC cK zK cC zC mK mC gk gr gd gw sh l c c1 z1 c2 z2 gs⟩ ?_ (tL w0 gk gr gd gw sh l c c1 z1 c2 z2 gs hg hl)
  intro a ha
  rcases List.mem_append.1 ha with ha | ha
  · refine one4_ok ?_ a ha
    cases nK <;> cases nC <;> exact fa20_ok (by first | exact h2 rfl | exact Nat.zero_le _) (by first | exact Nat.le_trans h1 (by decide) | exact Nat.zero_le _) (by first | exact h4 rfl | exact Nat.zero_le _) (by first | exact Nat.le_trans h3 (by decide) | exact Nat.zero_le _)
  · refine one4_ok ?_ a ha
    cases sh <;> exact fa20_ok (by simp [glK, grK, hg]) (by simp [glK]; try omega) (by simp [glC, grC, hg]) (by simp [glC]; try omega)

theorem dst4 : (ops4.toList.all fun o => match o.dst with | some d => decide (d < Try.f3.ntmps) | none => true) = true := by kernel_rfl
theorem dsts4 {l : List Oper} (h : (∀ o ∈ l, o ∈ ops4.toList)) : ∀ o ∈ l, dstOk Try.f3.ntmps o.dst := by
  intro o ho d hd
  have := List.all_eq_true.1 dst4 o (h o ho)
  rw [hd] at this
  simpa using this

theorem FilR_cases {n : Nat} {h h' : Tr O} {v : V} {n' : Nat} (q : FilR n h v h' n') : ∃ gk gr gd gw sh l c c1 z1 c2 z2 gs, gs.length = l ∧ l ≤ 300 ∧ v = gFV gk gr gd gw sh l c c1 z1 c2 z2 n ∧ h' = gH sh gs h n ∧ n' = gN sh n := by
  obtain ⟨k, r, d, w, ⟨c, z, c', z', rfl, rfl, rfl⟩ | ⟨l, c, ks, c', z', rfl, rfl, rfl, h1, h2⟩ | ⟨l, c, ks, c', z', rfl, rfl, rfl, h1, h2⟩⟩ := q
  · exact ⟨k, r, d, w, .o, 0, 0, c, z, c', z', [], rfl, by omega, rfl, rfl, rfl⟩
  · exact ⟨k, r, d, w, .K, l, c, 0, 0, c', z', ks, h1, h2, rfl, rfl, rfl⟩
  · exact ⟨k, r, d, w, .C, l, c, c', z', 0, 0, ks, h1, h2, rfl, rfl, rfl⟩

theorem t3 (hK : nK = false → lK ≤ cK ∧ lK ≤ ks.length) (hC : nC = false → lC ≤ cC ∧ lC ≤ cs.length) (hS : nS = false → n ≤ cz ∧ n ≤ ss.length) :
    T Try.prog Try.f3.ntmps w0 cd3 (st3 k r d v lK ks lC cs n ss x0 y0 x1 y1 nK nC nS cK zK cC zC cz zS) RQ := by
  have lnmin : ∀ (b : Bool) (lim l : Nat), ln b (min lim l) = min lim (ln b l) := by intro b lim l; cases b <;> simp
  refine T_nextN 4 (cS S13_ok) mo (H1 nK nC (min 60 lK) (min 300 lC)) 1000 [3, 5, 7, 1] (by kernel_rfl) (P1 k r d v lK ks lC cs n ss x0 y0 x1 y1 nK nC nS cK zK cC zC cz zS (min 60 lK) (min 300 lC)) ?_ ?_
  · intro a ha
    simp only [List.mem_cons, List.mem_append] at ha
    rcases ha with rfl | ha | rfl | ha
    · rw [lnmin]; exact min_ok (lim := 60)
    · cases nK with
      | true => exact cap_ok (b := true) (m := 0) (c := 0) (Nat.le_refl _) a (by simpa [capL] using ha)
      | false => exact cap_ok (by have := hK rfl; simp; omega) a ha
    · rw [lnmin]; exact min_ok (lim := 300)
    · cases nC with
      | true => exact cap_ok (b := true) (m := 0) (c := 0) (Nat.le_refl _) a (by simpa [capL] using ha)
      | false => exact cap_ok (by have := hC rfl; simp; omega) a ha
  refine T_seq' (by kernel_rfl) ?_
  refine T_ops (by kernel_rfl) ?_
  have e4 := P4 k r d v ks cs n ss x0 y0 x1 y1 nK nC nS cK zK cC zC cz zS (min 60 lK) (min 300 lC) (min 60 n)
  refine TL_next (cS S13_ok) (H4 nS (min 60 n)) sp4 (dsts4 (by intro o ho; rw [sp4]; simp [ho])) (PT k r d v ks cs ss x0 y0 x1 y1 nK nC nS cK zK cC zC cz zS (min 60 lK) (min 300 lC) (min 60 n)) _ e4.1 e4.2.1 [3, 5, 7, 37] e4.2.2 ?_ ?_
  · intro a ha
    simp only [List.mem_cons] at ha
    rcases ha with rfl | ha
    · rw [lnmin]; exact min_ok (lim := 60)
    · cases nS with
      | true => exact cap_ok (b := true) (m := 0) (c := 0) (Nat.le_refl _) a (by simpa [capL] using ha)
      | false => exact cap_ok (by have := hS rfl; simp; omega) a ha
  refine TL_call (PTw k r d v ks cs ss x0 y0 x1 y1 nK nC nS cK zK cC zC cz zS (min 60 lK) (min 300 lC) (min 60 n)) (PTs k r d v ks cs ss x0 y0 x1 y1 nK nC nS cK zK cC zC cz zS (min 60 lK) (min 300 lC) (min 60 n)) (by kernel_rfl) (dsts4 (l := [o4]) (by intro o ho; rw [sp4]; simp only [List.mem_singleton] at ho; subst ho; simp) o4 (by simp)) (FilR (nT nK nC nS) (PT k r d v ks cs ss x0 y0 x1 y1 nK nC nS cK zK cC zC cz zS (min 60 lK) (min 300 lC) (min 60 n)).h) (fun E w args' ra g hd => ?_) ?_
  · have hn : nT nK nC nS < top := by cases nK <;> cases nC <;> cases nS <;> decide
    cases nS with
    | true => exact call7n g hd hn ra
    | false => exact call7 g hd hn (PTh k r d v ks cs ss x0 y0 x1 y1 nK nC cK zK cC zC cz zS (min 60 lK) (min 300 lC) (min 60 n)) (by have := hS rfl; omega) (by omega) ra
  · intro u h' n' q
    obtain ⟨gk, gr, gd, gw, sh, l, c, c1, z1, c2, z2, gs, hg, hl, rfl, rfl, rfl⟩ := FilR_cases q
    refine ⟨_, rfl, ?_⟩
    have e5 := P4b k r d v ks cs ss x0 y0 x1 y1 nK nC nS cK zK cC zC cz zS (min 60 lK) (min 300 lC) (min 60 n) gk gr gd gw sh l c c1 z1 c2 z2 gs
    refine TL_next (cS S13_ok) [] (l1 := p4b) (l2 := []) (by simp) (dsts4 (by intro o ho; rw [sp4]; simp [ho])) (PG k r d v ks cs x0 y0 x1 y1 nK nC cK zK cC zC (min 60 lK) (min 300 lC) gk gr gd gw sh l c c1 z1 c2 z2 gs) [] e5.1 e5.2.1 [3, 5, 8, 7] e5.2.2 (by simp) ?_
    refine fun K a w r' k' => k' .normal _ a w ?_ r'
    simp only [andThen]
    exact tG k r d v ks cs x0 y0 x1 y1 nK nC cK zK cC zC w0 (min 60 lK) (min 300 lC) gk gr gd gw sh l c c1 z1 c2 z2 gs (by omega) (fun h => by have := hK h; omega) (by omega) (fun h => by have := hC h; omega) hg hl

/-- the whole function, at whatever comes in -/
theorem calls3 {E : Env} {w : World} {args' : List Value} (g : Eng.Good E (threeH (rowO (rO nK ks)) (rowO (rO nC cs)) (rowO (rO nS ss))) w) (hd : Dom E 3) (hro : ∀ m, ¬ wlive (threeH (rowO (rO nK ks)) (rowO (rO nC cs)) (rowO (rO nS ss))) m)
    (ra : vrels E [FV k r (slN nK 0 lK cK zK) d v (slN nC 1 lC cC zC), slN nS 2 n cz zS, rc4 x0 y0 x1 y1] args') (hK : nK = false → lK ≤ cK ∧ lK ≤ ks.length) (hC : nC = false → lC ≤ cC ∧ lC ≤ cs.length) (hS : nS = false → n ≤ cz ∧ n ≤ ss.length) :
    Calls Try.prog 3 args'.toArray w fun e w' => e = .returned (.bool true) ∧ RowKit.Below w.heap.size w w' :=
  (calls_of_TE (F := 1000) mo po (cS S13_ok) Try.func3 (code := cd3) (by kernel_rfl) g hd hro ra (Nat.le_of_ble_eq_true (by kernel_rfl)) (Nat.le_of_ble_eq_true (by kernel_rfl)) (t3 k r d v lK ks lC cs n ss x0 y0 x1 y1 nK nC nS cK zK cC zC cz zS w hK hC hS)).mono fun e w' q => by
    obtain ⟨⟨E2, ho⟩, hb⟩ := q
    refine ⟨?_, hb⟩
    cases e with
    | returned v' =>
      have ho : vrel E2 (.bool true) v' := ho
      simp only [vrel] at ho
      rw [ho]
    | _ => exact ho.elim
end
end Go.Proofs.Ytpkpcnohnlhjlaa
