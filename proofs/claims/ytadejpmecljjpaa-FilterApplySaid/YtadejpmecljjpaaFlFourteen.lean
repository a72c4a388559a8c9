/- Filter laws anew, part RA: rows as arguments, nil or not. No conditions. -/
import Derived.Test.YtadejpmecljjpaaFlTwelve
import Derived.Test.YtadejpmecljjpaaFlThirteen
set_option linter.unusedVariables false
set_option linter.unusedSimpArgs false
set_option linter.unusedSectionVars false
namespace Go.Proofs.Ytadejpmecljjpaa
open Go Go.Eng
def slK (nil : Bool) (pos l c z e : Nat) : V := match nil with | true => .slc none 0 c z | false => .slc (some (pos, 0)) l c e
def rwK (nil : Bool) (k : IntKind) (ks : List Int) : Option (IntKind × List Int) := match nil with | true => none | false => some (k, ks)
structure RowArg (k : IntKind) (esz : Nat) (h : Tr O) (v : V) (a : Option (Nat × Nat)) (l : Nat) (ks : List Int) (nil : Bool) (c z : Nat) : Prop where
  nn : nil = a.isNone
  nl : nil = true → l = 0 ∧ ks = []
  rel : ∀ (E : Env) ns j y, ns.getD j none = a → vrel E v y → vrel (E.rows ns) (slK nil j l c z esz) y
  row : ∀ k' ks', rwK nil k ks = some (k', ks') → ∃ m o full, a = some (m, o) ∧ h.get m = some (.ints k' full) ∧ full.drop o = ks'
theorem rowArg {k : IntKind} {esz : Nat} {h : Tr O} {v : V} {a : Option (Nat × Nat)} {l : Nat} {ks : List Int} (e : rowK k esz h v = some (a, l, ks)) : ∃ nil c z, RowArg k esz h v a l ks nil c z := by
  rcases rowK_cases e with ⟨c, z, rfl, rfl, rfl, rfl⟩ | ⟨m, o, c, full, rfl, rfl, hm, hd⟩
  · exact ⟨true, c, z, ⟨rfl, fun _ => ⟨rfl, rfl⟩, fun E ns j y _ q => nil_any q, fun k1 ks1 q => by cases q⟩⟩
  · exact ⟨false, c, 0, ⟨rfl, fun q => Bool.noConfusion q, fun E ns j y hj q => rows_slc hj q, fun k1 ks1 q => by cases q; exact ⟨m, o, full, rfl, hm, hd⟩⟩⟩
end Go.Proofs.Ytadejpmecljjpaa
namespace Go.Proofs.Ytadejpmecljjpaa
open Go Go.Eng
abbrev gB1 (ol : Code) : Code := seqR (inner ol)
abbrev gI (ol : Code) : Code := inner (seqL (gB1 ol))
abbrev gL (ol : Code) : Code := inner (seqR (gI ol))
def gridOk (N i1 i2 : Nat) (ol : Code) : Bool := isLoop ol && (isSeq (inner ol) && (codeOk N (seqL (inner ol)) && (isSeq (gB1 ol) && (isBlock (seqL (gB1 ol)) i1 && (isSeq (gI ol) && (codeOk N (seqL (gI ol)) && (isBlock (seqR (gI ol)) i2 && (isLoop (gL ol) && (codeOk N (inner (gL ol)) && codeOk N (seqR (gB1 ol)))))))))))
section
variable {P : Program} {n0 N : Nat} {fn : Func} {ol : Code} {i1 i2 io : Nat} {LY LX : List Nat} {SY : Nat → Int → St} {SX : Nat → Int → Int → St} {a b c e : Int} {Hy : List (Nat × Fix)} {F : Nat}
def GStep (P : Program) (n0 N : Nat) (SX : Nat → Int → Int → St) (i2 : Nat) (a b c : Int) (ol : Code) (i j : Nat) : Prop :=
  TG P n0 N (inner (gL ol)) (SX (i * (c - a).toNat + j) (b + Int.ofNat i) (a + Int.ofNat j)) (fun y s' => (j < (c - a).toNat ∧ y = .normal ∧ ∃ L s1 o, normG n0 L s' = some s1 ∧ ownS o s1 = some (SX (i * (c - a).toNat + j + 1) (b + Int.ofNat i) (a + Int.ofNat j + 1))) ∨
    (j = (c - a).toNat ∧ y = .exit i2 ∧ ∃ L, normG n0 L s' = some (SX (i * (c - a).toNat + j) (b + Int.ofNat i) (a + Int.ofNat j))))
theorem TG_grid (X' : CX P) (hm : P.follows .mixedOrders = true) (hg : gridOk N i1 i2 ol = true) (bb : -2000000 ≤ b ∧ b ≤ 2000000) (be : -2000000 ≤ e ∧ e ≤ 2000000)
    (y1 : ∀ m y, RunIs P X'.cs Hy F n0 fn LY (seqL (inner ol)) (SY m y) [] [([(decide (y < e), true)], [], .to .normal (SY m y)), ([(decide (y < e), false)], [], .to (.exit io) (SY m y))])
    (y2 : ∀ m y, RunIs P X'.cs [] F n0 fn LX (seqL (gI ol)) (SY m y) [] [([], [], .to .normal (SX m y a))])
    (y3' : ∀ m y x, ∃ H3, RunIs P X'.cs H3 F n0 fn LY (seqR (gB1 ol)) (SX m y x) [] [([], [upP y (y + 1)], .to .normal (SY m (y + 1)))])
    (hx : ∀ i j, i < (e - b).toNat → j ≤ (c - a).toNat → GStep P n0 N SX i2 a b c ol i j)
    (s0 : ∃ L, normG n0 L (SY 0 b) = some (SY 0 b)) :
    TG P n0 N ol (SY 0 b) (fun z s' => z = .exit io ∧ ∃ L yy, normG n0 L s' = some (SY ((e - b).toNat * (c - a).toNat) yy)) := by
  simp only [gridOk, Bool.and_eq_true] at hg
  obtain ⟨g1, g2, g3, g4, g5, g6, g7, g8, g9, g10, g11⟩ := hg
  obtain ⟨L0, h0⟩ := s0
  refine TG_loop_inv (fun k' s => ∃ i, k' = (e - b).toNat - i ∧ i ≤ (e - b).toNat ∧ ∃ L, normG n0 L s = some (SY (i * (c - a).toNat) (b + Int.ofNat i))) g1 ?_ (e - b).toNat ⟨0, rfl, Nat.zero_le _, L0, by
      have hz : b + Int.ofNat 0 = b := by show b + ((0 : Nat) : Int) = _; omega
      rw [hz, Nat.zero_mul]; exact h0⟩
  rintro k' s ⟨i, hk, hi, L, hs1⟩
  refine TG_norm hs1 ?_
  have hI : Int.ofNat i = (i : Int) := rfl
  have htest : (b + Int.ofNat i < e) ↔ i < (e - b).toNat := by rw [hI]; omega
  refine TG_isSeq X' hm anyR g2 g3 (y1 _ _) fun g hg hc => ?_
  simp only [List.mem_cons, List.not_mem_nil, or_false] at hg
  rcases hg with rfl | rfl
  · have hlt : i < (e - b).toNat := htest.1 (of_decide_eq_true (hc _ (List.mem_singleton.2 rfl)))
    refine ⟨by simp, fun s' hs' => TG_norm hs' ?_⟩
    refine TG_seq' g4 ?_
    refine TG_block (i := i1) g5 ?_
    refine TG_isSeq X' hm anyR g6 g7 (y2 _ _) fun g hg _ => ?_
    rw [List.mem_singleton] at hg; subst hg
    refine ⟨by simp, fun s' hs' => ?_⟩
    refine TG_block (i := i2) g8 ?_
    refine TG_mono (Q1 := fun z s' => z = .exit i2 ∧ ∃ L xx, normG n0 L s' = some (SX ((i + 1) * (c - a).toNat) (b + Int.ofNat i) xx)) ?_ ?_
    · refine TG_loop_inv (fun k' s => ∃ j, k' = (c - a).toNat - j ∧ j ≤ (c - a).toNat ∧ ∃ L s1 o, normG n0 L s = some s1 ∧ ownS o s1 = some (SX (i * (c - a).toNat + j) (b + Int.ofNat i) (a + Int.ofNat j))) g9 ?_ (c - a).toNat ⟨0, rfl, Nat.zero_le _, LX, _, [], by
        have hz : a + Int.ofNat 0 = a := by show a + ((0 : Nat) : Int) = _; omega
        rw [hz, Nat.add_zero]; exact ⟨hs', rfl⟩⟩
      rintro k' s ⟨j, hk, hj, L, s1, o, hs, ho⟩
      refine TG_norm hs (TG_own o ho ?_)
      refine TG_mono (hx i j hlt hj) ?_
      rintro y s' (⟨hj', rfl, L', s1', o', hs', ho'⟩ | ⟨hj', rfl, L', hs'⟩)
      · have e1 : a + Int.ofNat (j + 1) = a + Int.ofNat j + 1 := by show a + ((j + 1 : Nat) : Int) = a + (j : Int) + 1; omega
        simp only [andThen]
        refine ⟨(c - a).toNat - (j + 1), by omega, j + 1, rfl, by omega, L', s1', o', hs', ?_⟩
        rw [e1]; exact ho'
      · simp only [andThen]
        refine ⟨trivial, L', a + Int.ofNat j, ?_⟩
        have e2 : (i + 1) * (c - a).toNat = i * (c - a).toNat + j := by rw [Nat.add_mul, Nat.one_mul, hj']
        rw [e2]; exact hs'
    · rintro z s' ⟨rfl, L, xx, hs2⟩
      rw [outOf_exit]
      simp only [outOf, andThen]
      refine TG_norm hs2 ?_
      obtain ⟨H3, hr3⟩ := y3' ((i + 1) * (c - a).toNat) (b + Int.ofNat i) xx
      refine TG_is X' hm anyR g11 hr3 fun g hg _ => ?_
      rw [List.mem_singleton] at hg; subst hg
      refine ⟨by
        intro p hp; rw [List.mem_singleton] at hp; subst hp
        exact upI (by rw [hI]; omega) (by rw [hI]; omega), fun s' hs' => ?_⟩
      refine ⟨(e - b).toNat - (i + 1), by omega, i + 1, rfl, by omega, LY, ?_⟩
      have e3 : b + Int.ofNat (i + 1) = b + Int.ofNat i + 1 := by show b + ((i + 1 : Nat) : Int) = b + (i : Int) + 1; omega
      rw [e3]; exact hs'
  · have hge : ¬ i < (e - b).toNat := fun q => (of_decide_eq_false (hc _ (List.mem_singleton.2 rfl))) (htest.2 q)
    have hie : i = (e - b).toNat := by omega
    refine ⟨by simp, fun s' hs' => ?_⟩
    refine ⟨rfl, LY, b + Int.ofNat i, ?_⟩
    subst hie
    exact hs'
theorem GStep.of {LX' : List Nat} {H : List (Nat × Fix)} {A : List Prop} {Lr : List V} (X' : CX P) (hm : P.follows .mixedOrders = true) {i j : Nat} (hj : j ≤ (c - a).toNat) (hc : codeOk N (inner (gL ol)) = true)
    (hr : RunIs P X'.cs H F n0 fn LX' (inner (gL ol)) (SX (i * (c - a).toNat + j) (b + Int.ofNat i) (a + Int.ofNat j)) Lr [([(decide (a + Int.ofNat j < c), true)], A, .to .normal (SX (i * (c - a).toNat + j + 1) (b + Int.ofNat i) (a + Int.ofNat j + 1))), ([(decide (a + Int.ofNat j < c), false)], [], .to (.exit i2) (SX (i * (c - a).toNat + j) (b + Int.ofNat i) (a + Int.ofNat j)))])
    (hA : j < (c - a).toNat → ∀ p ∈ A, p) : GStep P n0 N SX i2 a b c ol i j := by
  have hJ : Int.ofNat j = (j : Int) := rfl
  have htest : (a + Int.ofNat j < c) ↔ j < (c - a).toNat := by rw [hJ]; omega
  refine TG_is X' hm anyR hc hr fun g hg hcc => ?_
  simp only [List.mem_cons, List.not_mem_nil, or_false] at hg
  rcases hg with rfl | rfl
  · have hlt : j < (c - a).toNat := htest.1 (of_decide_eq_true (hcc _ (List.mem_singleton.2 rfl)))
    exact ⟨hA hlt, fun s' hs' => .inl ⟨hlt, rfl, LX', _, [], hs', rfl⟩⟩
  · have hge : ¬ j < (c - a).toNat := fun q => (of_decide_eq_false (hcc _ (List.mem_singleton.2 rfl))) (htest.2 q)
    exact ⟨by simp, fun s' hs' => .inr ⟨by omega, rfl, LX', hs'⟩⟩
end
end Go.Proofs.Ytadejpmecljjpaa
namespace Go.Proofs.Ytadejpmecljjpaa
open Go Go.Eng
def iV5 (X0 Y0 X1 Y1 : Int) (P : V) : V := .agg [.int .i64 X0, .int .i64 Y0, .int .i64 X1, .int .i64 Y1, P]
def rwL (nil : Bool) (pos : Nat) (k : IntKind) (ks : List Int) : List (Nat × O) := match nil with | true => [] | false => [(pos, .ints k ks)]
noncomputable abbrev cdSm : Code := bodyOf Try.f17
noncomputable abbrev lpSm : Code := seqL (tailN 2 cdSm)
noncomputable abbrev loSm : Code := inner (seqR lpSm)
noncomputable abbrev enSm : Code := seqR (tailN 2 cdSm)
section
variable (nP nQ : Bool) (X0 Y0 X1 Y1 A B C D : Int) (lP cP zP lQ cQ zQ : Nat) (px qx : List Int)
def stSm : St := startSt [iV5 X0 Y0 X1 Y1 (slK nP 0 lP cP zP 4), iV5 A B C D (slK nQ 1 lQ cQ zQ 4)] (rH [rwK nP .u8 px, rwK nQ .u8 qx]) 2
def lsSm : List (Nat × O) := rwL nP 0 .u8 px ++ (rwL nQ 1 .u8 qx ++ [(2, .cells (iV5 X0 Y0 X1 Y1 (slK nP 0 lP cP zP 4)).cells), (3, .cells (iV5 A B C D (slK nQ 1 lQ cQ zQ 4)).cells)])
def frSm : List (Nat × V) := [(2, .ptr (some (2, 0))), (3, .ptr (some (3, 0)))]
def sSm0 : St := stG frSm (hL (lsSm nP nQ X0 Y0 X1 Y1 A B C D lP cP zP lQ cQ zQ px qx)) 4
def sSm (i : Nat) : St := stG (frSm ++ [(5, .int .i64 (Int.ofNat i))]) (hL (lsSm nP nQ X0 Y0 X1 Y1 A B C D lP cP zP lQ cQ zQ px qx)) 4
theorem sm_1 : RunIs Try.prog csH [(10, .give (.bool false)), (18, .give (.bool false))] 1000 2 Try.f17 [2, 3] (headN 2 cdSm) (stSm nP nQ X0 Y0 X1 Y1 A B C D lP cP zP lQ cQ zQ px qx) []
    [([], [pBq (!rcE (X0, Y0, X1, Y1) A B C D) false, pBq (((if nP then 0 else lP : Nat) : Int) != ((if nQ then 0 else lQ : Nat) : Int)) false], .to .normal (sSm0 nP nQ X0 Y0 X1 Y1 A B C D lP cP zP lQ cQ zQ px qx))] := by
  unfold RunIs; cases nP <;> cases nQ <;> kernel_rfl
theorem sm_2 : RunIs Try.prog csH [] 1000 2 Try.f17 [2, 3, 5] (seqL lpSm) (sSm0 nP nQ X0 Y0 X1 Y1 A B C D lP cP zP lQ cQ zQ px qx) []
    [([], [], .to .normal (sSm nP nQ X0 Y0 X1 Y1 A B C D lP cP zP lQ cQ zQ px qx 0))] := by
  unfold RunIs; cases nP <;> cases nQ <;> kernel_rfl
theorem sm_3 (i : Nat) : RunIs Try.prog csH [(24, .split), (37, .give (.bool false)), (5, .give (.int .i64 (Int.ofNat (i + 1))))] 1000 2 Try.f17 [2, 3, 5] (inner loSm) (sSm false false X0 Y0 X1 Y1 A B C D lP cP zP lQ cQ zQ px qx i) []
    [([(decide (Int.ofNat i < (lP : Int)), true)], [0 ≤ Int.ofNat i ∧ Int.ofNat i < (lP : Int), 0 + (Int.ofNat i).toNat * 4 + 4 ≤ px.length, 0 ≤ Int.ofNat i ∧ Int.ofNat i < (lQ : Int), 0 + (Int.ofNat i).toNat * 4 + 4 ≤ qx.length, pBq (!q4E (g4 px (0 + i * 4)) (g4 qx (0 + i * 4))) false, upP (Int.ofNat i) (Int.ofNat (i + 1))],
      .to .normal (sSm false false X0 Y0 X1 Y1 A B C D lP cP zP lQ cQ zQ px qx (i + 1))),
     ([(decide (Int.ofNat i < (lP : Int)), false)], [], .to (.exit 0) (sSm false false X0 Y0 X1 Y1 A B C D lP cP zP lQ cQ zQ px qx i))] := by
  unfold RunIs; kernel_rfl
theorem sm_30 : RunIs Try.prog csH [] 1000 2 Try.f17 [2, 3, 5] (inner loSm) (sSm nP nQ X0 Y0 X1 Y1 A B C D 0 cP zP lQ cQ zQ px qx 0) []
    [([], [], .to (.exit 0) (sSm nP nQ X0 Y0 X1 Y1 A B C D 0 cP zP lQ cQ zQ px qx 0))] := by
  unfold RunIs; cases nP <;> cases nQ <;> kernel_rfl
theorem sm_4 (i : Nat) : ∃ h n, RunIs Try.prog csH [] 1000 2 Try.f17 [] enSm (sSm nP nQ X0 Y0 X1 Y1 A B C D lP cP zP lQ cQ zQ px qx i) []
    [([], [], .ret (.bool true) h n)] := by
  refine ⟨hL (rwL nP 0 .u8 px ++ rwL nQ 1 .u8 qx), 2, ?_⟩
  unfold RunIs; cases nP <;> cases nQ <;> kernel_rfl
def smOk (X0 Y0 X1 Y1 A B C D : Int) (lP lQ : Nat) (px qx : List Int) : List Prop := [X0 = A ∧ Y0 = B ∧ X1 = C ∧ Y1 = D, lP = lQ, lP * 4 ≤ px.length, lP * 4 ≤ qx.length, lP ≤ 300000, ∀ i, i < lP → pixQ px (Int.ofNat i) = pixQ qx (Int.ofNat i)]
theorem tgSm (hP : nP = true → lP = 0) (hQ : nQ = true → lQ = 0) (hA : ∀ p ∈ smOk X0 Y0 X1 Y1 A B C D lP lQ px qx, p) : TG Try.prog 2 Try.f17.ntmps cdSm (stSm nP nQ X0 Y0 X1 Y1 A B C D lP cP zP lQ cQ zQ px qx) (RetG Try.prog 2 Try.f17 fun u _ _ => u = .bool true) := by
  have h1 : X0 = A ∧ Y0 = B ∧ X1 = C ∧ Y1 = D := hA _ (by simp [smOk])
  have h2 : lP = lQ := hA _ (by simp [smOk])
  have h3 : lP * 4 ≤ px.length := hA _ (by simp [smOk])
  have h4 : lP * 4 ≤ qx.length := hA _ (by simp [smOk])
  have h5 : lP ≤ 300000 := hA _ (by simp [smOk])
  have h6 : ∀ i, i < lP → pixQ px (Int.ofNat i) = pixQ qx (Int.ofNat i) := hA _ (by simp [smOk])
  obtain ⟨rfl, rfl, rfl, rfl⟩ := h1
  subst h2
  have hf1 : ∀ {x : Bool}, x = true → pBq (!x) false := fun h => pBq_f (by rw [h]; rfl)
  refine TG_isN1 2 XH mo (by kernel_rfl) (sm_1 nP nQ X0 Y0 X1 Y1 X0 Y0 X1 Y1 lP cP zP lP cQ zQ px qx) (fun p hp => ?_) ?_
  · simp only [List.mem_cons, List.not_mem_nil, or_false] at hp
    rcases hp with rfl | rfl
    · exact hf1 (rcE_self ..)
    · refine pBq_f (bne_eq_false_iff_eq.2 ?_)
      have e1 : (if nP then 0 else lP) = lP := by
        cases nP with
        | true => rw [hP rfl]; rfl
        | false => rfl
      have e2 : (if nQ then 0 else lP) = lP := by
        cases nQ with
        | true => rw [hQ rfl]; rfl
        | false => rfl
      rw [e1, e2]
  refine TG_seq' (by kernel_rfl) ?_
  refine TG_isSeq XH mo anyR (by kernel_rfl) (by kernel_rfl) (sm_2 nP nQ X0 Y0 X1 Y1 X0 Y0 X1 Y1 lP cP zP lP cQ zQ px qx) fun g hg _ => ?_
  rw [List.mem_singleton] at hg; subst hg
  refine ⟨by simp, fun s' hs' => ?_⟩
  refine TG_block (i := 0) (by kernel_rfl) (TG_mono (Q1 := fun y s2 => y = .exit 0 ∧ ∃ i L, normG 2 L s2 = some (sSm nP nQ X0 Y0 X1 Y1 X0 Y0 X1 Y1 lP cP zP lP cQ zQ px qx i)) ?_ ?_)
  · refine TG_loop_inv (fun k' s => ∃ i, k' = lP - i ∧ i ≤ lP ∧ ∃ L, normG 2 L s = some (sSm nP nQ X0 Y0 X1 Y1 X0 Y0 X1 Y1 lP cP zP lP cQ zQ px qx i)) (by kernel_rfl) ?_ lP ⟨0, rfl, Nat.zero_le _, _, hs'⟩
    rintro k' s ⟨i, hk', hi, L, hs⟩
    refine TG_norm hs ?_
    have key : lP = 0 → TG Try.prog 2 Try.f17.ntmps (inner loSm) (sSm nP nQ X0 Y0 X1 Y1 X0 Y0 X1 Y1 lP cP zP lP cQ zQ px qx i) (andThen (fun s' => ∃ k', k' < lP - i ∧ ∃ i, k' = lP - i ∧ i ≤ lP ∧ ∃ L, normG 2 L s' = some (sSm nP nQ X0 Y0 X1 Y1 X0 Y0 X1 Y1 lP cP zP lP cQ zQ px qx i)) fun y s2 => y = .exit 0 ∧ ∃ i L, normG 2 L s2 = some (sSm nP nQ X0 Y0 X1 Y1 X0 Y0 X1 Y1 lP cP zP lP cQ zQ px qx i)) := by
      rintro rfl
      obtain rfl : i = 0 := by omega
      refine TG_is XH mo anyR (by kernel_rfl) (sm_30 nP nQ X0 Y0 X1 Y1 X0 Y0 X1 Y1 cP zP 0 cQ zQ px qx) fun g hg hc => ?_
      rw [List.mem_singleton] at hg; subst hg
      exact ⟨by simp, fun s' hs' => ⟨rfl, 0, _, hs'⟩⟩
    rw [hk']
    cases nP with
    | true => exact key (hP rfl)
    | false =>
      cases nQ with
      | true => exact key (hQ rfl)
      | false =>
        refine TG_is XH mo anyR (by kernel_rfl) (sm_3 X0 Y0 X1 Y1 X0 Y0 X1 Y1 lP cP zP lP cQ zQ px qx i) fun g hg hc => ?_
        simp only [List.mem_cons, List.not_mem_nil, or_false] at hg
        have hI : Int.ofNat i = (i : Int) := rfl
        have e0 : (Int.ofNat i).toNat = i := rfl
        rcases hg with rfl | rfl
        · have hlt : i < lP := by
            have := of_decide_eq_true (hc _ (List.mem_singleton.2 rfl))
            rw [hI] at this; omega
          refine ⟨fun p hp => ?_, fun s' hs' => ⟨lP - (i + 1), by omega, i + 1, rfl, by omega, _, hs'⟩⟩
          simp only [List.mem_cons, List.not_mem_nil, or_false] at hp
          rcases hp with rfl | rfl | rfl | rfl | rfl | rfl
          · rw [hI]; omega
          · rw [e0]; omega
          · rw [hI]; omega
          · rw [e0]; omega
          · refine hf1 ?_
            rw [g4_pix, g4_pix, h6 i hlt]; exact q4E_self _
          · exact upN (by omega)
        · exact ⟨by simp, fun s' hs' => ⟨rfl, i, _, hs'⟩⟩
  · rintro y s2 ⟨rfl, i, L, hs2⟩
    rw [outOf_exit]
    simp only [andThen]
    refine TG_norm hs2 ?_
    obtain ⟨h', n', hr'⟩ := sm_4 nP nQ X0 Y0 X1 Y1 X0 Y0 X1 Y1 lP cP zP lP cQ zQ px qx i
    refine TG_ret XH mo _ (by kernel_rfl) hr' fun g hg _ => ?_
    rw [List.mem_singleton] at hg; subst hg
    exact ⟨by simp, _, _, _, rfl, rfl⟩
end
def specSam : List V → Tr O → Option (List Prop × V)
  | [.agg [.int .i64 X0, .int .i64 Y0, .int .i64 X1, .int .i64 Y1, P], .agg [.int .i64 A, .int .i64 B, .int .i64 C, .int .i64 D, Q]], h => match rowK .u8 4 h P, rowK .u8 4 h Q with
    | some (_, lP, px), some (_, lQ, qx) => some (smOk X0 Y0 X1 Y1 A B C D lP lQ px qx, .bool true)
    | _, _ => none
  | _, _ => none
theorem one_Sam : PureA Try.prog 17 specSam := by
  refine ⟨Nat.le_of_ble_eq_true (by kernel_rfl), fun args h A u e => ?_⟩
  unfold specSam at e
  split at e
  case h_2 => cases e
  rename_i X0 Y0 X1 Y1 P A B C D Q
  split at e
  case h_2 => cases e
  rename_i aP lP px aQ lQ qx hP hQ
  simp only [Option.some.injEq, Prod.mk.injEq] at e; obtain ⟨rfl, rfl⟩ := e
  refine ⟨rfl, fun hA E n w args' ra g hd hc => ?_⟩
  obtain ⟨nP, cP, zP, RP⟩ := rowArg hP
  obtain ⟨nQ, cQ, zQ, RQ⟩ := rowArg hQ
  obtain ⟨y, ys, r0, ⟨y2, ys2, r1, rs, rfl⟩, rfl⟩ := ra
  have rs : ys2 = [] := rs
  subst rs
  obtain ⟨g2, d2, n2⟩ := rows_ok g [aP, aQ] [rwK nP .u8 px, rwK nQ .u8 qx] (Nat.le_of_ble_eq_true rfl) (by
    intro j k' ks' hj
    match j, hj with
    | 0, hj => obtain ⟨m, o, full, rfl, q⟩ := RP.row k' ks' (Option.some.inj hj); exact ⟨m, o, full, rfl, q⟩
    | 1, hj => obtain ⟨m, o, full, rfl, q⟩ := RQ.row k' ks' (Option.some.inj hj); exact ⟨m, o, full, rfl, q⟩
    | j + 2, hj => simp at hj)
  exact read_calls mo po Try.func17 (code := cdSm) (by kernel_rfl) (by kernel_rfl) (tgSm nP nQ X0 Y0 X1 Y1 A B C D lP cP zP lQ cQ zQ px qx (fun q => (RP.nl q).1) (fun q => (RQ.nl q).1) hA) (E := E.rows [aP, aQ]) g2 d2 n2
    ⟨y, _, im_rel (fun z q => RP.rel E _ 0 z rfl q) r0, ⟨y2, [], im_rel (fun z q => RQ.rel E _ 1 z rfl q) r1, rfl, rfl⟩, rfl⟩
end Go.Proofs.Ytadejpmecljjpaa
namespace Go.Proofs.Ytadejpmecljjpaa
open Go Go.Eng
section
variable (nS : Bool) (X0 Y0 X1 Y1 : Int) (lP cP : Nat) (px : List Int) (l cp z : Nat) (ss : List Int) (G0 G1 G2 G3 w : Int) (M : Nat) (gx : List Int)
end
structure SmR (X0 Y0 X1 Y1 : Int) : Prop where
  a : -500 ≤ X0
  b : -500 ≤ Y0
  c : X1 ≤ 500
  d : Y1 ≤ 500
  x : X0 < X1
  y : Y0 < Y1
section
variable {X0 Y0 X1 Y1 : Int} {px g0 : List Int} (hR : SmR X0 Y0 X1 Y1)
include hR
end
end Go.Proofs.Ytadejpmecljjpaa
namespace Go.Proofs.Ytadejpmecljjpaa
open Go Go.Eng
section
variable (nS : Bool) (X0 Y0 X1 Y1 : Int) (lP cP : Nat) (px : List Int) (l cp z : Nat) (ss : List Int)
end
end Go.Proofs.Ytadejpmecljjpaa
namespace Go.Proofs.Ytadejpmecljjpaa
open Go Go.Eng
section
variable (X0 Y0 X1 Y1 : Int) (lP cP z N : Nat) (px qx : List Int)
end
theorem putI_get {px : List Int} {o : Nat} {x : Int} (h : o + 1 ≤ px.length) (t : Nat) : (putI px o [x]).getD t 0 = if t = o then x else px.getD t 0 := by
  unfold putI
  have hl : [x].length = 1 := rfl
  rw [hl]
  have e1 : (px.take o).length = o := by rw [List.length_take]; omega
  rw [List.getD_eq_getElem?_getD, List.getElem?_append, e1]
  by_cases h1 : t < o
  · rw [if_pos h1, if_neg (by omega), List.getElem?_take, if_pos h1, List.getD_eq_getElem?_getD]
  · rw [if_neg h1, List.getElem?_append, hl]
    by_cases h2 : t = o
    · subst h2
      rw [if_pos (by omega), if_pos rfl, Nat.sub_self]; rfl
    · rw [if_neg (by omega), if_neg h2, List.getElem?_drop, List.getD_eq_getElem?_getD]
      have : o + 1 + (t - o - 1) = t := by omega
      rw [this]
section
variable (X0 Y0 X1 Y1 : Int) (lP cP z : Nat) (px : List Int)
end
end Go.Proofs.Ytadejpmecljjpaa
