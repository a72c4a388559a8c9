/- Filter laws, part LZ: what the reference's maker of filters gives. No conditions. -/
import Derived.Test.YtpkpcnohnlhjlaaEngFilL
namespace Go.Proofs.Ytpkpcnohnlhjlaa
open Go Go.Eng

noncomputable abbrev o20 : Oper := match ops20.toList.drop 5 with | o :: _ => o | [] => default
def frY (b l c l' c' : Nat) (ss ks : List Int) : St := { (s5z ss b l c) with fr := (s5z ss b l c).fr.set 82 (some (.slc (some (3, 0)) l' c' 1)), h := (s5z ss b l c).h.set 3 (some (.own .i64 ks)), n := 4 }
theorem w7 (b l c l' c' : Nat) (ss ks : List Int) : (sq [] p20b (frY b l c l' c' ss ks)).isSome = true ∧ samesL (orNil (sq [] p20b (frY b l c l' c' ss ks))) = samesR (orNil (sq [] p20b (frY b l c l' c' ss ks))) ∧ tells (normF [2, 5]) (orNil (sq [] p20b (frY b l c l' c' ss ks))) = [([], [], some (s5y ks l' c'))] := ⟨by kernel_rfl, by kernel_rfl, by kernel_rfl⟩
noncomputable abbrev Z7 : Code := seqR (seqR R7c)
theorem w8 (ks : List Int) (l c : Nat) : (r26 [] Z7 (s5y ks l c)).isSome = true ∧ samesL (orNil (r26 [] Z7 (s5y ks l c))) = samesR (orNil (r26 [] Z7 (s5y ks l c))) ∧ tells (shpC Try.prog (cfS S6) 1000 Try.f7) (orNil (r26 [] Z7 (s5y ks l c))) = [([], [], some (FV 5 0 (.slc none 0 0 0) 0 0 (.slc (some (2, 0)) l c 1), some (.own .i64 ks)))] := ⟨by kernel_rfl, by kernel_rfl, by kernel_rfl⟩
theorem sp20 : ops20.toList = p20a ++ (o20 :: p20b) := by kernel_rfl
theorem dst20 : (ops20.toList.all fun o => match o.dst with | some d => decide (d < Try.f7.ntmps) | none => true) = true := by kernel_rfl
theorem dsts {l : List Oper} (h : (∀ o ∈ l, o ∈ ops20.toList)) : ∀ o ∈ l, dstOk Try.f7.ntmps o.dst := by
  intro o ho d hd
  have := List.all_eq_true.1 dst20 o (h o ho)
  rw [hd] at this
  simpa using this

theorem kinds7 (k : Int) : k = 1 ∨ k = 2 ∨ k = 3 ∨ k = 4 ∨ k = 5 ∨ k = 7 ∨ k = 8 ∨ (k ≠ 1 ∧ k ≠ 2 ∧ k ≠ 3 ∧ k ≠ 4 ∧ k ≠ 5 ∧ k ≠ 7 ∧ k ≠ 8) := by omega
theorem tmod3 (x : Int) : x.tmod 3 = -2 ∨ x.tmod 3 = -1 ∨ x.tmod 3 = 0 ∨ x.tmod 3 = 1 ∨ x.tmod 3 = 2 := by
  cases x with
  | ofNat m =>
    have h : m % 3 = 0 ∨ m % 3 = 1 ∨ m % 3 = 2 := by omega
    show Int.ofNat (m % 3) = -2 ∨ Int.ofNat (m % 3) = -1 ∨ Int.ofNat (m % 3) = 0 ∨ Int.ofNat (m % 3) = 1 ∨ Int.ofNat (m % 3) = 2
    rcases h with h | h | h <;> rw [h] <;> decide
  | negSucc m =>
    have h : (m + 1) % 3 = 0 ∨ (m + 1) % 3 = 1 ∨ (m + 1) % 3 = 2 := by omega
    show -(Int.ofNat ((m + 1) % 3)) = -2 ∨ -(Int.ofNat ((m + 1) % 3)) = -1 ∨ -(Int.ofNat ((m + 1) % 3)) = 0 ∨ -(Int.ofNat ((m + 1) % 3)) = 1 ∨ -(Int.ofNat ((m + 1) % 3)) = 2
    rcases h with h | h | h <;> rw [h] <;> decide

section
variable (ss : List Int) (n c : Nat) (w0 : World)
theorem endA {N : Nat} {s : St} {A : List Prop} {H : List (Nat × Fix)} (hc : codeOk N R7c = true) (h : (r26 H R7c s).isSome = true ∧ samesL (orNil (r26 H R7c s)) = samesR (orNil (r26 H R7c s)) ∧ tells (shpA Try.prog (cfS S6) 1000 Try.f7) (orNil (r26 H R7c s)) = [([], A, true)]) (hA : ∀ a ∈ A, a) : T Try.prog N w0 R7c s MadeQ :=
  T_tells (cS S6_ok) mo _ _ hc h.1 h.2.1 h.2.2 fun g hg _ => by rw [List.mem_singleton.1 hg]; exact ⟨hA, fun x s' hx => madeA hx⟩
theorem endB {N : Nat} {s : St} {A : List Prop} {H : List (Nat × Fix)} (hc : codeOk N R7c = true) (h : (r26 H R7c s).isSome = true ∧ samesL (orNil (r26 H R7c s)) = samesR (orNil (r26 H R7c s)) ∧ tells (shpB Try.prog (cfS S6) 1000 Try.f7) (orNil (r26 H R7c s)) = [([], A, true)]) (hA : ∀ a ∈ A, a) : T Try.prog N w0 R7c s MadeQ :=
  T_tells (cS S6_ok) mo _ _ hc h.1 h.2.1 h.2.2 fun g hg _ => by rw [List.mem_singleton.1 hg]; exact ⟨hA, fun x s' hx => madeB hx⟩

/-- behind the call -/
theorem endC (b l c' : Nat) (hb : b + l ≤ ss.length) (hl : l < 60) (Q : Exit → St → Prop) (hQ : ∀ ks l2 c2, ks.length = l2 → l2 ≤ 300 → Q .normal (s5y ks l2 c2)) (hs : stepOp Try.prog o20 (s5z ss b l c').fr (s5z ss b l c').h (s5z ss b l c').n = some (.call 26 [.slc (some (2, b)) l c' 1])) : TL Try.prog Try.f7.ntmps w0 ops20 (o20 :: p20b) (s5z ss b l c') Q := by
  refine TL_call (by kernel_rfl) hs (by kernel_rfl) (dsts (l := [o20]) (by intro o ho; rw [sp20]; simp only [List.mem_singleton] at ho; subst ho; simp) o20 (by simp)) (RowR 3 (s5z ss b l c').h) (fun E w args' ra g hd => call26 g hd (by show 3 < top; decide) (by rfl) hb hl ra) ?_
  rintro v h' n' ⟨l2, c2, ks, rfl, rfl, rfl, hk, hl2⟩
  refine ⟨_, rfl, ?_⟩
  refine TL_next (cS S6_ok) [] (l1 := p20b) (l2 := []) (by simp) (dsts (by intro o ho; rw [sp20]; simp [ho])) (s5y ks l2 c2) [] (w7 b l c' l2 c2 ss ks).1 (w7 b l c' l2 c2 ss ks).2.1 [2, 5] (w7 b l c' l2 c2 ss ks).2.2 (by simp) ?_
  exact fun K a w r k => k .normal _ a w (hQ ks l2 c2 hk hl2) r

theorem t7 (hn : n ≤ 60) (hl : n ≤ ss.length) : T Try.prog Try.f7.ntmps w0 cd7 (startSt [sl n c] (rowA ss) 2) MadeQ := by
  refine T_next (cS S6_ok) mo [] 1000 [0, 2] _ [] (by kernel_rfl) (by kernel_rfl) (by kernel_rfl) (by kernel_rfl) (a7 ss n c) (by simp) ?_
  refine T_next (cS S6_ok) mo [] 1000 [0, 2, 3] _ [] (by kernel_rfl) (by kernel_rfl) (by kernel_rfl) (by kernel_rfl) (b7 ss n c) (by simp) ?_
  refine T_seq' (by kernel_rfl) ?_
  refine T_next (cS S6_ok) mo [] 1000 [0, 2, 3, 4] _ [] (by kernel_rfl) (by kernel_rfl) (by kernel_rfl) (by kernel_rfl) (d7 ss n c) (by simp) ?_
  refine T_block (i := 0) (by kernel_rfl) ?_
  -- what comes behind the loop
  have rest : ∀ i x, T Try.prog Try.f7.ntmps w0 R7c (SA7 ss n c i x) MadeQ := by
    intro i x
    have hcode : codeOk Try.f7.ntmps R7c = true := by kernel_rfl
    have kk : ∀ {k : Int}, Kx x = k → ∀ a ∈ [isK (Kx x) k], a := fun h a ha => by rw [List.mem_singleton.1 ha, h]
    have k1 : ∀ {r : Int}, Kx x = 1 → (x 1).tmod 3 = r → ∀ a ∈ [isK (Kx x) 1, isK ((x 1).tmod 3) r], a := fun h h' a ha => by
      simp only [List.mem_cons, List.not_mem_nil, or_false] at ha
      rcases ha with rfl | rfl
      · rw [h]
      · rw [h']
    rcases kinds7 (Kx x) with h | h | h | h | h | h | h | h
    · rcases tmod3 (x 1) with h' | h' | h' | h' | h'
      · exact endB w0 hcode (k7_1_0 ss n c i x) (k1 h h')
      · exact endB w0 hcode (k7_1_1 ss n c i x) (k1 h h')
      · exact endB w0 hcode (k7_1_2 ss n c i x) (k1 h h')
      · exact endB w0 hcode (k7_1_3 ss n c i x) (k1 h h')
      · exact endB w0 hcode (k7_1_4 ss n c i x) (k1 h h')
    · exact endA w0 hcode (k7_2 ss n c i x) (kk h)
    · exact endA w0 hcode (k7_3 ss n c i x) (kk h)
    · exact endA w0 hcode (k7_4 ss n c i x) (kk h)
    · -- a curve
      refine T_next (cS S6_ok) mo _ 1000 [0, 2, 5] _ _ (by kernel_rfl) (by kernel_rfl) (w1 ss n c i x).1 (w1 ss n c i x).2.1 (w1 ss n c i x).2.2 (kk h) ?_
      refine T_seq' (by kernel_rfl) ?_
      refine T_next (cS S6_ok) mo _ 1000 [0, 2, 5, 31] _ _ (by kernel_rfl) (by kernel_rfl) (w2 ss n c).1 (w2 ss n c).2.1 (w2 ss n c).2.2 (by simp) ?_
      refine T_block (i := 2) (by kernel_rfl) ?_
      refine T_next (cS S6_ok) mo _ 1000 [0, 2, 5, 31, 32] _ _ (by kernel_rfl) (by kernel_rfl) (w3 ss n c).1 (w3 ss n c).2.1 (w3 ss n c).2.2 (by simp) ?_
      refine T_cond (t := false) (by kernel_rfl) (by kernel_rfl) (fun h => by cases h) (fun _ => ?_)
      refine T_next (cS S6_ok) mo _ 1000 [0, 2, 5, 31, 67] _ _ (by kernel_rfl) (by kernel_rfl) (w4 ss n c).1 (w4 ss n c).2.1 (w4 ss n c).2.2 (by simp) ?_
      refine T_cond (t := false) (by kernel_rfl) (by kernel_rfl) (fun h => by cases h) (fun _ => ?_)
      refine T_next (cS S6_ok) mo _ 1000 [0, 2, 5, 75] _ _ (by kernel_rfl) (by kernel_rfl) (w5 ss n c).1 (w5 ss n c).2.1 (w5 ss n c).2.2 (by simp) ?_
      refine T_cond (t := true) (by kernel_rfl) (by kernel_rfl) (fun _ => ?_) (fun h => by cases h)
      refine T_ops (by kernel_rfl) ?_
      have hQ : ∀ ks l2 c2, ks.length = l2 → l2 ≤ 300 → outOf 2 (andThen (fun s' => T Try.prog Try.f7.ntmps w0 Z7 s' MadeQ) MadeQ) .normal (s5y ks l2 c2) := by
        intro ks l2 c2 h1 h2
        simp only [outOf, andThen]
        exact T_tells (cS S6_ok) mo _ _ (by kernel_rfl) (w8 ks l2 c2).1 (w8 ks l2 c2).2.1 (w8 ks l2 c2).2.2 fun g hg _ => by rw [List.mem_singleton.1 hg]; exact ⟨by simp, fun x s' hx => madeC h1 h2 hx⟩
      by_cases h0 : n = 0
      · subst h0
        refine TL_next (cS S6_ok) _ sp20 (dsts (by intro o ho; rw [sp20]; simp [ho])) (s5z ss 0 0 c) _ (w6_0 ss c).1 (w6_0 ss c).2.1 [2, 5, 81] (w6_0 ss c).2.2 (by
          intro a ha
          simp only [List.mem_cons, List.not_mem_nil, or_false] at ha
          rcases ha with rfl | rfl
          · rfl
          · exact ⟨Int.le_refl _, Int.le_refl _⟩) ?_
        exact endC ss w0 0 0 c (by omega) (by omega) _ hQ (by kernel_rfl)
      · have hn1 : ¬ (Int.ofNat n < 1) := by show ¬ ((n : Int) < 1); omega
        refine TL_next (cS S6_ok) _ sp20 (dsts (by intro o ho; rw [sp20]; simp [ho])) (s5z ss 1 (n - 1) (c - 1)) _ (w6_1 ss n c).1 (w6_1 ss n c).2.1 [2, 5, 81] (w6_1 ss n c).2.2 (by
          intro a ha
          simp only [List.mem_cons, List.not_mem_nil, or_false] at ha
          rcases ha with rfl | rfl
          · rw [if_neg hn1]
          · exact ⟨by omega, by show (1 : Int) ≤ (n : Int); omega⟩) ?_
        exact endC ss w0 1 (n - 1) (c - 1) (by omega) (by omega) _ hQ (by kernel_rfl)
    · exact endA w0 hcode (k7_7 ss n c i x) (kk h)
    · exact endA w0 hcode (k7_8 ss n c i x) (kk h)
    · refine endA w0 hcode (k7_o ss n c i x) ?_
      have hn : ∀ {j : Int}, Kx x ≠ j → nK7 x j := fun hj => by unfold nK7; rw [decide_eq_false hj]
      obtain ⟨h1, h2, h3, h4, h5, h6, h7⟩ := h
      simp only [List.mem_cons, List.not_mem_nil, or_false]
      rintro a (rfl | rfl | rfl | rfl | rfl | rfl | rfl)
      · exact hn h1
      · exact hn h2
      · exact hn h3
      · exact hn h4
      · exact hn h5
      · exact hn h6
      · exact hn h7
  refine T_rounds (cS S6_ok) mo (fun _ => [(14, .split)]) 1000 Try.f7 [0, 2, 3, 4] (fun k s => ∃ i x, k = n - i ∧ i ≤ n ∧ s = SA7 ss n c i x) (by kernel_rfl) (by kernel_rfl) ?_ n ⟨0, _, rfl, Nat.zero_le _, rfl⟩
  rintro k s ⟨i, x, hk, hi, rfl⟩
  by_cases hi60 : i = 60
  · subst hi60
    obtain ⟨e1, e2, e3⟩ := rd7e ss n c x
    refine ⟨0, _, e1, e2, e3, fun g hg hc => ?_⟩
    rw [List.mem_singleton.1 hg]
    refine ⟨by simp, fun s' hs' => ?_⟩
    simp only [outOf, if_true, andThen]
    exact T_norm hs' (rest _ _)
  · obtain ⟨e1, e2, e3⟩ := rd7 ss n c i (by omega) x
    refine ⟨0, _, e1, e2, e3, fun g hg hc => ?_⟩
    simp only [List.mem_cons, List.not_mem_nil, or_false] at hg
    rcases hg with rfl | rfl
    · have hil := lt_ofNat (hc _ (List.mem_cons_self ..))
      refine ⟨?_, n - (i + 1), by omega, i + 1, _, rfl, hil, rfl⟩
      simp only [List.mem_cons, List.not_mem_nil, or_false]
      rintro a (rfl | rfl)
      · exact in_ofNat hil
      · unfold ldI; omega
    · refine ⟨by simp, fun s' hs' => ?_⟩
      simp only [outOf, if_true, andThen]
      exact T_norm hs' (rest _ _)
end

/-- what is made, under the caller's next name -/
def FilR (n : Nat) (h : Tr O) (v : V) (h' : Tr O) (n' : Nat) : Prop := ∃ k r d w, (∃ c z c' z', v = FV k r (.slc none 0 c z) d w (.slc none 0 c' z') ∧ h' = h ∧ n' = n) ∨
  (∃ (l c : Nat) (ks : List Int) (c' z' : Nat), v = FV k r (.slc (some (n, 0)) l c 1) d w (.slc none 0 c' z') ∧ h' = h.set n (some (.ints .i64 ks)) ∧ n' = n + 1 ∧ ks.length = l ∧ l ≤ 300) ∨
  (∃ (l c : Nat) (ks : List Int) (c' z' : Nat), v = FV k r (.slc none 0 c' z') d w (.slc (some (n, 0)) l c 1) ∧ h' = h.set n (some (.ints .i64 ks)) ∧ n' = n + 1 ∧ ks.length = l ∧ l ≤ 300)

theorem made_post {E : Env} {h : Tr O} {n : Nat} {w : World} (g : Eng.Good E h w) (hd : Dom E n) (hn : n < top) {e : Ending} {w' : World} (q : ∃ v h' E2, MR v h' ∧ outrel E2 (.ret v) e ∧ Upd0 w E2 h' w') :
    ∃ v h' n', FilR n h v h' n' ∧ CPost E h n w (.ret v) h' n' e w' := by
  obtain ⟨v, h', E2, ⟨k, r, d, x, hM⟩, ho, u⟩ := q
  rcases hM with ⟨c, z, c', z', rfl⟩ | ⟨q, l, c, ks, c', z', o2, rfl, hq, hlk, hwr, hl, hl3⟩ | ⟨q, l, c, ks, c', z', o2, rfl, hq, hlk, hwr, hl, hl3⟩
  · exact ⟨_, h, n, ⟨k, r, d, x, .inl ⟨c, z, c', z', rfl, rfl, rfl⟩⟩, cpost_of g hd rfl ⟨E2, ho⟩ u.below⟩
  · obtain ⟨E', u1, u2, u3, u4⟩ := cpost_row g hd hn u.below u.good false hq hlk (u.fresh hq hwr)
    refine ⟨_, _, n + 1, ⟨k, r, d, x, .inr (.inl ⟨l, c, ks, c', z', rfl, rfl, rfl, hl, hl3⟩)⟩, E', u1, u2, u3, by omega, ?_⟩
    cases e with
    | returned v' => exact filter_rel (E := E2) (E' := E') (fun y q => u4 l c y q) (fun y q => free_rel (E := E2) (.slc none 0 c' z') y rfl q) ho
    | _ => exact ho.elim
  · obtain ⟨E', u1, u2, u3, u4⟩ := cpost_row g hd hn u.below u.good false hq hlk (u.fresh hq hwr)
    refine ⟨_, _, n + 1, ⟨k, r, d, x, .inr (.inr ⟨l, c, ks, c', z', rfl, rfl, rfl, hl, hl3⟩)⟩, E', u1, u2, u3, by omega, ?_⟩
    cases e with
    | returned v' => exact filter_rel (E := E2) (E' := E') (fun y q => free_rel (E := E2) (.slc none 0 c' z') y rfl q) (fun y q => u4 l c y q) ho
    | _ => exact ho.elim

theorem call7 {E : Env} {h : Tr O} {n : Nat} {w : World} {m l c : Nat} {ss : List Int} {args' : List Value} (g : Eng.Good E h w) (hd : Dom E n) (hn : n < top) (hm : h.get m = some (.ints .i64 ss)) (hl : l ≤ ss.length) (hl2 : l ≤ 60) (ra : vrels E [.slc (some (m, 0)) l c 1] args') :
    Calls Try.prog 7 args'.toArray w fun e w' => ∃ v h' n', FilR n h v h' n' ∧ CPost E h n w (.ret v) h' n' e w' := by
  obtain ⟨g2, d2, n2⟩ := two_ok (a := some m) (b := none) (x := some ss) (y := none) g (fun k e => by cases e; exact ⟨m, rfl, hm⟩) (fun k e => by cases e)
  obtain ⟨y, ys, r0, rs, rfl⟩ := ra
  exact (calls_of_TQ (F := 1000) mo po (cS S6_ok) Try.func7 (code := cd7) (by kernel_rfl) g2 d2 n2 (args := [sl l c]) ⟨y, ys, two_slc0 r0, rs, rfl⟩ (by kernel_rfl) _ (t7 ss l c w hl2 hl)).mono fun e w' q => made_post g hd hn q
theorem call7n {E : Env} {h : Tr O} {n : Nat} {w : World} {c z : Nat} {args' : List Value} (g : Eng.Good E h w) (hd : Dom E n) (hn : n < top) (ra : vrels E [nilS c z] args') :
    Calls Try.prog 7 args'.toArray w fun e w' => ∃ v h' n', FilR n h v h' n' ∧ CPost E h n w (.ret v) h' n' e w' := by
  obtain ⟨g2, d2, n2⟩ := two_ok (a := none) (b := none) (x := none) (y := none) g (fun k e => by cases e) (fun k e => by cases e)
  exact (calls_of_TQ (F := 1000) mo po (cS S6_ok) Try.func7 (code := cd7) (by kernel_rfl) g2 d2 n2 (args := [nilS c z]) (frees_rel _ _ (by kernel_rfl) ra) (by kernel_rfl) _
    (T_tells (cS S6_ok) mo _ _ (by kernel_rfl) (nil7i c z) (nil7s c z) (nil7 c z) fun g hg _ => by rw [List.mem_singleton.1 hg]; exact ⟨by simp, fun x s' hx => madeB hx⟩)).mono fun e w' q => made_post g hd hn q
end Go.Proofs.Ytpkpcnohnlhjlaa
