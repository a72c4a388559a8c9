/- Filter laws anew, part RA: rows as arguments, nil or not. No conditions. -/
import Derived.Test.YtadejpmecljjpaaFlTwelve
import Derived.Test.YtadejpmecljjpaaFlThirteen
set_option linter.unusedVariables false
set_option linter.unusedSimpArgs false
set_option linter.unusedSectionVars false
namespace Go.Proofs.Ytadejpmecljjpaa
open Go Go.Eng
def slK (nil : Bool) (pos l c z e : Nat) : V := match nil with | true => .slc none 0 c z | false => .slc (some (pos, 0)) l c e
def rwK (nil : Bool) (k : IntKind) (ks : List Int) : Option (IntKind × List Int) := match nil with | true => none | false => some (k, ks)
structure RowArg (k : IntKind) (esz : Nat) (h : Tr O) (v : V) (a : Option (Nat × Nat)) (l : Nat) (ks : List Int) (nil : Bool) (c z : Nat) : Prop where
  nn : nil = a.isNone
  nl : nil = true → l = 0 ∧ ks = []
  rel : ∀ (E : Env) ns j y, ns.getD j none = a → vrel E v y → vrel (E.rows ns) (slK nil j l c z esz) y
  row : ∀ k' ks', rwK nil k ks = some (k', ks') → ∃ m o full, a = some (m, o) ∧ h.get m = some (.ints k' full) ∧ full.drop o = ks'
theorem rowArg {k : IntKind} {esz : Nat} {h : Tr O} {v : V} {a : Option (Nat × Nat)} {l : Nat} {ks : List Int} (e : rowK k esz h v = some (a, l, ks)) : ∃ nil c z, RowArg k esz h v a l ks nil c z := by
  rcases rowK_cases e with ⟨c, z, rfl, rfl, rfl, rfl⟩ | ⟨m, o, c, full, rfl, rfl, hm, hd⟩
  · exact ⟨true, c, z, ⟨rfl, fun _ => ⟨rfl, rfl⟩, fun E ns j y _ q => nil_any q, fun k1 ks1 q => by cases q⟩⟩
  · exact ⟨false, c, 0, ⟨rfl, fun q => Bool.noConfusion q, fun E ns j y hj q => rows_slc hj q, fun k1 ks1 q => by cases q; exact ⟨m, o, full, rfl, hm, hd⟩⟩⟩
end Go.Proofs.Ytadejpmecljjpaa
namespace Go.Proofs.Ytadejpmecljjpaa
open Go Go.Eng
abbrev gB1 (ol : Code) : Code := seqR (inner ol)
abbrev gI (ol : Code) : Code := inner (seqL (gB1 ol))
abbrev gL (ol : Code) : Code := inner (seqR (gI ol))
def gridOk (N i1 i2 : Nat) (ol : Code) : Bool := isLoop ol && (isSeq (inner ol) && (codeOk N (seqL (inner ol)) && (isSeq (gB1 ol) && (isBlock (seqL (gB1 ol)) i1 && (isSeq (gI ol) && (codeOk N (seqL (gI ol)) && (isBlock (seqR (gI ol)) i2 && (isLoop (gL ol) && (codeOk N (inner (gL ol)) && codeOk N (seqR (gB1 ol)))))))))))
section
variable {P : Program} {n0 N : Nat} {fn : Func} {ol : Code} {i1 i2 io : Nat} {LY LX : List Nat} {SY : Nat → Int → St} {SX : Nat → Int → Int → St} {a b c e : Int} {Hy : List (Nat × Fix)} {F : Nat}
def GStep (P : Program) (n0 N : Nat) (SX : Nat → Int → Int → St) (i2 : Nat) (a b c : Int) (ol : Code) (i j : Nat) : Prop :=
  TG P n0 N (inner (gL ol)) (SX (i * (c - a).toNat + j) (b + Int.ofNat i) (a + Int.ofNat j)) (fun y s' => (j < (c - a).toNat ∧ y = .normal ∧ ∃ L s1 o, normG n0 L s' = some s1 ∧ ownS o s1 = some (SX (i * (c - a).toNat + j + 1) (b + Int.ofNat i) (a + Int.ofNat j + 1))) ∨
    (j = (c - a).toNat ∧ y = .exit i2 ∧ ∃ L, normG n0 L s' = some (SX (i * (c - a).toNat + j) (b + Int.ofNat i) (a + Int.ofNat j))))
theorem TG_grid (X' : CX P) (hm : P.follows .mixedOrders = true) (hg : gridOk N i1 i2 ol = true) (bb : -2000000 ≤ b ∧ b ≤ 2000000) (be : -2000000 ≤ e ∧ e ≤ 2000000)
    (y1 : ∀ m y, RunIs P X'.cs Hy F n0 fn LY (seqL (inner ol)) (SY m y) [] [([(decide (y < e), true)], [], .to .normal (SY m y)), ([(decide (y < e), false)], [], .to (.exit io) (SY m y))])
    (y2 : ∀ m y, RunIs P X'.cs [] F n0 fn LX (seqL (gI ol)) (SY m y) [] [([], [], .to .normal (SX m y a))])
    (y3' : ∀ m y x, ∃ H3, RunIs P X'.cs H3 F n0 fn LY (seqR (gB1 ol)) (SX m y x) [] [([], [upP y (y + 1)], .to .normal (SY m (y + 1)))])
    (hx : ∀ i j, i < (e - b).toNat → j ≤ (c - a).toNat → GStep P n0 N SX i2 a b c ol i j)
    (s0 : ∃ L, normG n0 L (SY 0 b) = some (SY 0 b)) :
    TG P n0 N ol (SY 0 b) (fun z s' => z = .exit io ∧ ∃ L yy, normG n0 L s' = some (SY ((e - b).toNat * (c - a).toNat) yy)) := by
  simp only [gridOk, Bool.and_eq_true] at hg
  obtain ⟨g1, g2, g3, g4, g5, g6, g7, g8, g9, g10, g11⟩ := hg
  obtain ⟨L0, h0⟩ := s0
  refine TG_loop_inv (fun k' s => ∃ i, k' = (e - b).toNat - i ∧ i ≤ (e - b).toNat ∧ ∃ L, normG n0 L s = some (SY (i * (c - a).toNat) (b + Int.ofNat i))) g1 ?_ (e - b).toNat ⟨0, rfl, Nat.zero_le _, L0, by
      have hz : b + Int.ofNat 0 = b := by show b + ((0 : Nat) : Int) = _; omega
      rw [hz, Nat.zero_mul]; exact h0⟩
  rintro k' s ⟨i, hk, hi, L, hs1⟩
  refine TG_norm hs1 ?_
  have hI : Int.ofNat i = (i : Int) := rfl
  have htest : (b + Int.ofNat i < e) ↔ i < (e - b).toNat := by rw [hI]; omega
  refine TG_isSeq X' hm anyR g2 g3 (y1 _ _) fun g hg hc => ?_
  simp only [List.mem_cons, List.not_mem_nil, or_false] at hg
  rcases hg with rfl | rfl
  · have hlt : i < (e - b).toNat := htest.1 (of_decide_eq_true (hc _ (List.mem_singleton.2 rfl)))
    refine ⟨by simp, fun s' hs' => TG_norm hs' ?_⟩
    refine TG_seq' g4 ?_
    refine TG_block (i := i1) g5 ?_
    refine TG_isSeq X' hm anyR g6 g7 (y2 _ _) fun g hg _ => ?_
    rw [List.mem_singleton] at hg; subst hg
    refine ⟨by simp, fun s' hs' => ?_⟩
    refine TG_block (i := i2) g8 ?_
    refine TG_mono (Q1 := fun z s' => z = .exit i2 ∧ ∃ L xx, normG n0 L s' = some (SX ((i + 1) * (c - a).toNat) (b + Int.ofNat i) xx)) ?_ ?_
    · refine TG_loop_inv (fun k' s => ∃ j, k' = (c - a).toNat - j ∧ j ≤ (c - a).toNat ∧ ∃ L s1 o, normG n0 L s = some s1 ∧ ownS o s1 = some (SX (i * (c - a).toNat + j) (b + Int.ofNat i) (a + Int.ofNat j))) g9 ?_ (c - a).toNat ⟨0, rfl, Nat.zero_le _, LX, _, [], by
        have hz : a + Int.ofNat 0 = a := by show a + ((0 : Nat) : Int) = _; omega
        rw [hz, Nat.add_zero]; exact ⟨hs', rfl⟩⟩
      rintro k' s ⟨j, hk, hj, L, s1, o, hs, ho⟩
      refine TG_norm hs (TG_own o ho ?_)
      refine TG_mono (hx i j hlt hj) ?_
      rintro y s' (⟨hj', rfl, L', s1', o', hs', ho'⟩ | ⟨hj', rfl, L', hs'⟩)
      · have e1 : a + Int.ofNat (j + 1) = a + Int.ofNat j + 1 := by show a + ((j + 1 : Nat) : Int) = a + (j : Int) + 1; omega
        simp only [andThen]
        refine ⟨(c - a).toNat - (j + 1), by omega, j + 1, rfl, by omega, L', s1', o', hs', ?_⟩
        rw [e1]; exact ho'
      · simp only [andThen]
        refine ⟨trivial, L', a + Int.ofNat j, ?_⟩
        have e2 : (i + 1) * (c - a).toNat = i * (c - a).toNat + j := by rw [Nat.add_mul, Nat.one_mul, hj']
        rw [e2]; exact hs'
    · rintro z s' ⟨rfl, L, xx, hs2⟩
      rw [outOf_exit]
      simp only [outOf, andThen]
      refine TG_norm hs2 ?_
      obtain ⟨H3, hr3⟩ := y3' ((i + 1) * (c - a).toNat) (b + Int.ofNat i) xx
      refine TG_is X' hm anyR g11 hr3 fun g hg _ => ?_
      rw [List.mem_singleton] at hg; subst hg
      refine ⟨by
        intro p hp; rw [List.mem_singleton] at hp; subst hp
        exact upI (by rw [hI]; omega) (by rw [hI]; omega), fun s' hs' => ?_⟩
      refine ⟨(e - b).toNat - (i + 1), by omega, i + 1, rfl, by omega, LY, ?_⟩
      have e3 : b + Int.ofNat (i + 1) = b + Int.ofNat i + 1 := by show b + ((i + 1 : Nat) : Int) = b + (i : Int) + 1; omega
      rw [e3]; exact hs'
  · have hge : ¬ i < (e - b).toNat := fun q => (of_decide_eq_false (hc _ (List.mem_singleton.2 rfl))) (htest.2 q)
    have hie : i = (e - b).toNat := by omega
    refine ⟨by simp, fun s' hs' => ?_⟩
    refine ⟨rfl, LY, b + Int.ofNat i, ?_⟩
    subst hie
    exact hs'
theorem GStep.of {LX' : List Nat} {H : List (Nat × Fix)} {A : List Prop} {Lr : List V} (X' : CX P) (hm : P.follows .mixedOrders = true) {i j : Nat} (hj : j ≤ (c - a).toNat) (hc : codeOk N (inner (gL ol)) = true)
    (hr : RunIs P X'.cs H F n0 fn LX' (inner (gL ol)) (SX (i * (c - a).toNat + j) (b + Int.ofNat i) (a + Int.ofNat j)) Lr [([(decide (a + Int.ofNat j < c), true)], A, .to .normal (SX (i * (c - a).toNat + j + 1) (b + Int.ofNat i) (a + Int.ofNat j + 1))), ([(decide (a + Int.ofNat j < c), false)], [], .to (.exit i2) (SX (i * (c - a).toNat + j) (b + Int.ofNat i) (a + Int.ofNat j)))])
    (hA : j < (c - a).toNat → ∀ p ∈ A, p) : GStep P n0 N SX i2 a b c ol i j := by
  have hJ : Int.ofNat j = (j : Int) := rfl
  have htest : (a + Int.ofNat j < c) ↔ j < (c - a).toNat := by rw [hJ]; omega
  refine TG_is X' hm anyR hc hr fun g hg hcc => ?_
  simp only [List.mem_cons, List.not_mem_nil, or_false] at hg
  rcases hg with rfl | rfl
  · have hlt : j < (c - a).toNat := htest.1 (of_decide_eq_true (hcc _ (List.mem_singleton.2 rfl)))
    exact ⟨hA hlt, fun s' hs' => .inl ⟨hlt, rfl, LX', _, [], hs', rfl⟩⟩
  · have hge : ¬ j < (c - a).toNat := fun q => (of_decide_eq_false (hcc _ (List.mem_singleton.2 rfl))) (htest.2 q)
    exact ⟨by simp, fun s' hs' => .inr ⟨by omega, rfl, LX', hs'⟩⟩
end
end Go.Proofs.Ytadejpmecljjpaa
namespace Go.Proofs.Ytadejpmecljjpaa
open Go Go.Eng
def iV5 (X0 Y0 X1 Y1 : Int) (P : V) : V := .agg [.int .i64 X0, .int .i64 Y0, .int .i64 X1, .int .i64 Y1, P]
def rwL (nil : Bool) (pos : Nat) (k : IntKind) (ks : List Int) : List (Nat × O) := match nil with | true => [] | false => [(pos, .ints k ks)]
noncomputable abbrev cdSm : Code := bodyOf Try.f17
noncomputable abbrev lpSm : Code := seqL (tailN 2 cdSm)
noncomputable abbrev loSm : Code := inner (seqR lpSm)
noncomputable abbrev enSm : Code := seqR (tailN 2 cdSm)
section
variable (nP nQ : Bool) (X0 Y0 X1 Y1 A B C D : Int) (lP cP zP lQ cQ zQ : Nat) (px qx : List Int)
def stSm : St := startSt [iV5 X0 Y0 X1 Y1 (slK nP 0 lP cP zP 4), iV5 A B C D (slK nQ 1 lQ cQ zQ 4)] (rH [rwK nP .u8 px, rwK nQ .u8 qx]) 2
def lsSm : List (Nat × O) := rwL nP 0 .u8 px ++ (rwL nQ 1 .u8 qx ++ [(2, .cells (iV5 X0 Y0 X1 Y1 (slK nP 0 lP cP zP 4)).cells), (3, .cells (iV5 A B C D (slK nQ 1 lQ cQ zQ 4)).cells)])
def frSm : List (Nat × V) := [(2, .ptr (some (2, 0))), (3, .ptr (some (3, 0)))]
def sSm0 : St := stG frSm (hL (lsSm nP nQ X0 Y0 X1 Y1 A B C D lP cP zP lQ cQ zQ px qx)) 4
def sSm (i : Nat) : St := stG (frSm ++ [(5, .int .i64 (Int.ofNat i))]) (hL (lsSm nP nQ X0 Y0 X1 Y1 A B C D lP cP zP lQ cQ zQ px qx)) 4
theorem sm_1 : RunIs Try.prog csH [(10, .give (.bool false)), (18, .give (.bool false))] 1000 2 Try.f17 [2, 3] (headN 2 cdSm) (stSm nP nQ X0 Y0 X1 Y1 A B C D lP cP zP lQ cQ zQ px qx) []
    [([], [pBq (!rcE (X0, Y0, X1, Y1) A B C D) false, pBq (((if nP then 0 else lP : Nat) : Int) != ((if nQ then 0 else lQ : Nat) : Int)) false], .to .normal (sSm0 nP nQ X0 Y0 X1 Y1 A B C D lP cP zP lQ cQ zQ px qx))] := by
  unfold RunIs; cases nP <;> cases nQ <;> kernel_rfl
theorem sm_2 : RunIs Try.prog csH [] 1000 2 Try.f17 [2, 3, 5] (seqL lpSm) (sSm0 nP nQ X0 Y0 X1 Y1 A B C D lP cP zP lQ cQ zQ px qx) []
    [([], [], .to .normal (sSm nP nQ X0 Y0 X1 Y1 A B C D lP cP zP lQ cQ zQ px qx 0))] := by
  unfold RunIs; cases nP <;> cases nQ <;> kernel_rfl
theorem sm_3 (i : Nat) : RunIs Try.prog csH [(24, .split), (37, .give (.bool false)), (5, .give (.int .i64 (Int.ofNat (i + 1))))] 1000 2 Try.f17 [2, 3, 5] (inner loSm) (sSm false false X0 Y0 X1 Y1 A B C D lP cP zP lQ cQ zQ px qx i) []
    [([(decide (Int.ofNat i < (lP : Int)), true)], [0 ≤ Int.ofNat i ∧ Int.ofNat i < (lP : Int), 0 + (Int.ofNat i).toNat * 4 + 4 ≤ px.length, 0 ≤ Int.ofNat i ∧ Int.ofNat i < (lQ : Int), 0 + (Int.ofNat i).toNat * 4 + 4 ≤ qx.length, pBq (!q4E (g4 px (0 + i * 4)) (g4 qx (0 + i * 4))) false, upP (Int.ofNat i) (Int.ofNat (i + 1))],
      .to .normal (sSm false false X0 Y0 X1 Y1 A B C D lP cP zP lQ cQ zQ px qx (i + 1))),
     ([(decide (Int.ofNat i < (lP : Int)), false)], [], .to (.exit 0) (sSm false false X0 Y0 X1 Y1 A B C D lP cP zP lQ cQ zQ px qx i))] := by
  unfold RunIs; kernel_rfl
theorem sm_30 : RunIs Try.prog csH [] 1000 2 Try.f17 [2, 3, 5] (inner loSm) (sSm nP nQ X0 Y0 X1 Y1 A B C D 0 cP zP lQ cQ zQ px qx 0) []
    [([], [], .to (.exit 0) (sSm nP nQ X0 Y0 X1 Y1 A B C D 0 cP zP lQ cQ zQ px qx 0))] := by
  unfold RunIs; cases nP <;> cases nQ <;> kernel_rfl
theorem sm_4 (i : Nat) : ∃ h n, RunIs Try.prog csH [] 1000 2 Try.f17 [] enSm (sSm nP nQ X0 Y0 X1 Y1 A B C D lP cP zP lQ cQ zQ px qx i) []
    [([], [], .ret (.bool true) h n)] := by
  refine ⟨hL (rwL nP 0 .u8 px ++ rwL nQ 1 .u8 qx), 2, ?_⟩
  unfold RunIs; cases nP <;> cases nQ <;> kernel_rfl
def smOk (X0 Y0 X1 Y1 A B C D : Int) (lP lQ : Nat) (px qx : List Int) : List Prop := [X0 = A ∧ Y0 = B ∧ X1 = C ∧ Y1 = D, lP = lQ, lP * 4 ≤ px.length, lP * 4 ≤ qx.length, lP ≤ 300000, ∀ i, i < lP → pixQ px (Int.ofNat i) = pixQ qx (Int.ofNat i)]
theorem tgSm (hP : nP = true → lP = 0) (hQ : nQ = true → lQ = 0) (hA : ∀ p ∈ smOk X0 Y0 X1 Y1 A B C D lP lQ px qx, p) : TG Try.prog 2 Try.f17.ntmps cdSm (stSm nP nQ X0 Y0 X1 Y1 A B C D lP cP zP lQ cQ zQ px qx) (RetG Try.prog 2 Try.f17 fun u _ _ => u = .bool true) := by
  have h1 : X0 = A ∧ Y0 = B ∧ X1 = C ∧ Y1 = D := hA _ (by simp [smOk])
  have h2 : lP = lQ := hA _ (by simp [smOk])
  have h3 : lP * 4 ≤ px.length := hA _ (by simp [smOk])
  have h4 : lP * 4 ≤ qx.length := hA _ (by simp [smOk])
  have h5 : lP ≤ 300000 := hA _ (by simp [smOk])
  have h6 : ∀ i, i < lP → pixQ px (Int.ofNat i) = pixQ qx (Int.ofNat i) := hA _ (by simp [smOk])
  obtain ⟨rfl, rfl, rfl, rfl⟩ := h1
  subst h2
  have hf1 : ∀ {x : Bool}, x = true → pBq (!x) false := fun h => pBq_f (by rw [h]; rfl)
  refine TG_isN1 2 XH mo (by kernel_rfl) (sm_1 nP nQ X0 Y0 X1 Y1 X0 Y0 X1 Y1 lP cP zP lP cQ zQ px qx) (fun p hp => ?_) ?_
  · simp only [List.mem_cons, List.not_mem_nil, or_false] at hp
    rcases hp with rfl | rfl
    · exact hf1 (rcE_self ..)
    · refine pBq_f (bne_eq_false_iff_eq.2 ?_)
      have e1 : (if nP then 0 else lP) = lP := by
        cases nP with
        | true => rw [hP rfl]; rfl
        | false => rfl
      have e2 : (if nQ then 0 else lP) = lP := by
        cases nQ with
        | true => rw [hQ rfl]; rfl
        | false => rfl
      rw [e1, e2]
  refine TG_seq' (by kernel_rfl) ?_
  refine TG_isSeq XH mo anyR (by kernel_rfl) (by kernel_rfl) (sm_2 nP nQ X0 Y0 X1 Y1 X0 Y0 X1 Y1 lP cP zP lP cQ zQ px qx) fun g hg _ => ?_
  rw [List.mem_singleton] at hg; subst hg
  refine ⟨by simp, fun s' hs' => ?_⟩
  refine TG_block (i := 0) (by kernel_rfl) (TG_mono (Q1 := fun y s2 => y = .exit 0 ∧ ∃ i L, normG 2 L s2 = some (sSm nP nQ X0 Y0 X1 Y1 X0 Y0 X1 Y1 lP cP zP lP cQ zQ px qx i)) ?_ ?_)
  · refine TG_loop_inv (fun k' s => ∃ i, k' = lP - i ∧ i ≤ lP ∧ ∃ L, normG 2 L s = some (sSm nP nQ X0 Y0 X1 Y1 X0 Y0 X1 Y1 lP cP zP lP cQ zQ px qx i)) (by kernel_rfl) ?_ lP ⟨0, rfl, Nat.zero_le _, _, hs'⟩
    rintro k' s ⟨i, hk', hi, L, hs⟩
    refine TG_norm hs ?_
    have key : lP = 0 → TG Try.prog 2 Try.f17.ntmps (inner loSm) (sSm nP nQ X0 Y0 X1 Y1 X0 Y0 X1 Y1 lP cP zP lP cQ zQ px qx i) (andThen (fun s' => ∃ k', k' < lP - i ∧ ∃ i, k' = lP - i ∧ i ≤ lP ∧ ∃ L, normG 2 L s' = some (sSm nP nQ X0 Y0 X1 Y1 X0 Y0 X1 Y1 lP cP zP lP cQ zQ px qx i)) fun y s2 => y = .exit 0 ∧ ∃ i L, normG 2 L s2 = some (sSm nP nQ X0 Y0 X1 Y1 X0 Y0 X1 Y1 lP cP zP lP cQ zQ px qx i)) := by
      rintro rfl
      obtain rfl : i = 0 := by omega
      refine TG_is XH mo anyR (by kernel_rfl) (sm_30 nP nQ X0 Y0 X1 Y1 X0 Y0 X1 Y1 cP zP 0 cQ zQ px qx) fun g hg hc => ?_
      rw [List.mem_singleton] at hg; subst hg
      exact ⟨by simp, fun s' hs' => ⟨rfl, 0, _, hs'⟩⟩
    rw [hk']
    cases nP with
    | true => exact key (hP rfl)
    | false =>
      cases nQ with
      | true => exact key (hQ rfl)
      | false =>
        refine TG_is XH mo anyR (by kernel_rfl) (sm_3 X0 Y0 X1 Y1 X0 Y0 X1 Y1 lP cP zP lP cQ zQ px qx i) fun g hg hc => ?_
        simp only [List.mem_cons, List.not_mem_nil, or_false] at hg
        have hI : Int.ofNat i = (i : Int) := rfl
        have e0 : (Int.ofNat i).toNat = i := rfl
        rcases hg with rfl | rfl
        · have hlt : i < lP := by
            have := of_decide_eq_true (hc _ (List.mem_singleton.2 rfl))
            rw [hI] at this; omega
          refine ⟨fun p hp => ?_, fun s' hs' => ⟨lP - (i + 1), by omega, i + 1, rfl, by omega, _, hs'⟩⟩
          simp only [List.mem_cons, List.not_mem_nil, or_false] at hp
          rcases hp with rfl | rfl | rfl | rfl | rfl | rfl
          · rw [hI]; omega
          · rw [e0]; omega
          · rw [hI]; omega
          · rw [e0]; omega
          · refine hf1 ?_
            rw [g4_pix, g4_pix, h6 i hlt]; exact q4E_self _
          · exact upN (by omega)
        · exact ⟨by simp, fun s' hs' => ⟨rfl, i, _, hs'⟩⟩
  · rintro y s2 ⟨rfl, i, L, hs2⟩
    rw [outOf_exit]
    simp only [andThen]
    refine TG_norm hs2 ?_
    obtain ⟨h', n', hr'⟩ := sm_4 nP nQ X0 Y0 X1 Y1 X0 Y0 X1 Y1 lP cP zP lP cQ zQ px qx i
    refine TG_ret XH mo _ (by kernel_rfl) hr' fun g hg _ => ?_
    rw [List.mem_singleton] at hg; subst hg
    exact ⟨by simp, _, _, _, rfl, rfl⟩
end
def specSam : List V → Tr O → Option (List Prop × V)
  | [.agg [.int .i64 X0, .int .i64 Y0, .int .i64 X1, .int .i64 Y1, P], .agg [.int .i64 A, .int .i64 B, .int .i64 C, .int .i64 D, Q]], h => match rowK .u8 4 h P, rowK .u8 4 h Q with
    | some (_, lP, px), some (_, lQ, qx) => some (smOk X0 Y0 X1 Y1 A B C D lP lQ px qx, .bool true)
    | _, _ => none
  | _, _ => none
theorem one_Sam : PureA Try.prog 17 specSam := by
  refine ⟨Nat.le_of_ble_eq_true (by kernel_rfl), fun args h A u e => ?_⟩
  unfold specSam at e
  split at e
  case h_2 => cases e
  rename_i X0 Y0 X1 Y1 P A B C D Q
  split at e
  case h_2 => cases e
  rename_i aP lP px aQ lQ qx hP hQ
  simp only [Option.some.injEq, Prod.mk.injEq] at e; obtain ⟨rfl, rfl⟩ := e
  refine ⟨rfl, fun hA E n w args' ra g hd hc => ?_⟩
  obtain ⟨nP, cP, zP, RP⟩ := rowArg hP
  obtain ⟨nQ, cQ, zQ, RQ⟩ := rowArg hQ
  obtain ⟨y, ys, r0, ⟨y2, ys2, r1, rs, rfl⟩, rfl⟩ := ra
  have rs : ys2 = [] := rs
  subst rs
  obtain ⟨g2, d2, n2⟩ := rows_ok g [aP, aQ] [rwK nP .u8 px, rwK nQ .u8 qx] (Nat.le_of_ble_eq_true rfl) (by
    intro j k' ks' hj
    match j, hj with
    | 0, hj => obtain ⟨m, o, full, rfl, q⟩ := RP.row k' ks' (Option.some.inj hj); exact ⟨m, o, full, rfl, q⟩
    | 1, hj => obtain ⟨m, o, full, rfl, q⟩ := RQ.row k' ks' (Option.some.inj hj); exact ⟨m, o, full, rfl, q⟩
    | j + 2, hj => simp at hj)
  exact read_calls mo po Try.func17 (code := cdSm) (by kernel_rfl) (by kernel_rfl) (tgSm nP nQ X0 Y0 X1 Y1 A B C D lP cP zP lQ cQ zQ px qx (fun q => (RP.nl q).1) (fun q => (RQ.nl q).1) hA) (E := E.rows [aP, aQ]) g2 d2 n2
    ⟨y, _, im_rel (fun z q => RP.rel E _ 0 z rfl q) r0, ⟨y2, [], im_rel (fun z q => RQ.rel E _ 1 z rfl q) r1, rfl, rfl⟩, rfl⟩
end Go.Proofs.Ytadejpmecljjpaa
namespace Go.Proofs.Ytadejpmecljjpaa
open Go Go.Eng
noncomputable abbrev cdGr : Code := bodyOf Try.f31
noncomputable abbrev lpGr : Code := seqL (tailN 3 cdGr)
noncomputable abbrev olGr : Code := inner (seqR lpGr)
noncomputable abbrev enGr : Code := seqR (tailN 3 cdGr)
noncomputable abbrev WIm : CtrW := addW 23 specIm WH
theorem WIm_ok : CtrWOk Try.prog WIm := addW_ok one_Im WH_ok
noncomputable abbrev csIm : CallS := callX Try.prog WIm H0 1000 40
noncomputable abbrev XIm : CX Try.prog := CX.of mo po WIm_ok H0 1000 40
def bzZ : O := .cells [.int .i64 0, .int .i64 0, .int .i64 0, .int .i64 0, .slc none 0 0 0]
section
variable (nS : Bool) (X0 Y0 X1 Y1 : Int) (lP cP : Nat) (px : List Int) (l cp z : Nat) (ss : List Int) (G0 G1 G2 G3 w : Int) (M : Nat) (gx : List Int)
def lsG : List (Nat × O) := rwL false 0 .u8 px ++ (rwL nS 1 .i64 ss ++ [(2, .cells (iV5 X0 Y0 X1 Y1 (.slc (some (0, 0)) lP cP 4)).cells), (3, bzZ), (4, .cells [.int .i64 G0, .int .i64 G1, .int .i64 G2, .int .i64 G3, .slc (some (5, 0)) M M 4]), (5, .own .u8 gx)])
def frG : List (Nat × V) := [(2, .ptr (some (2, 0))), (4, .ptr (some (3, 0))), (5, .ptr (some (4, 0))), (6, .int .i64 w)]
def sGr : St := stG (frG w) (hL (lsG nS X0 Y0 X1 Y1 lP cP px ss G0 G1 G2 G3 M gx)) 6
def sGy (y : Int) : St := stG (frG w ++ [(7, .int .i64 y)]) (hL (lsG nS X0 Y0 X1 Y1 lP cP px ss G0 G1 G2 G3 M gx)) 6
def sGx (y x : Int) : St := stG (frG w ++ [(7, .int .i64 y), (8, .int .i64 x)]) (hL (lsG nS X0 Y0 X1 Y1 lP cP px ss G0 G1 G2 G3 M gx)) 6
def gw (q : Q4) : Int := w64 (q.2.2.1 - q.1)
theorem gr_1 : RunIs Try.prog csIm [] 1000 2 Try.f31 [2, 4, 5, 6] (headN 3 cdGr) (startSt [iV5 X0 Y0 X1 Y1 (slK false 0 lP cP z 4), slK nS 1 l cp z 1] (rH [rwK false .u8 px, rwK nS .i64 ss]) 2) []
    [([], [(if nS then 0 else l) ≤ (if nS then [] else ss).length, (if nS then 0 else l) ≤ 1000000, 0 < arQ (growQ X0 Y0 X1 Y1 2), arQ (growQ X0 Y0 X1 Y1 2) ≤ 1000000],
      .to .normal (sGr nS X0 Y0 X1 Y1 lP cP px ss (growQ X0 Y0 X1 Y1 2).1 (growQ X0 Y0 X1 Y1 2).2.1 (growQ X0 Y0 X1 Y1 2).2.2.1 (growQ X0 Y0 X1 Y1 2).2.2.2 (gw (growQ X0 Y0 X1 Y1 2)) (arQ (growQ X0 Y0 X1 Y1 2)).toNat (outR (imgQ (if nS then 0 else l) (if nS then [] else ss)) (arQ (growQ X0 Y0 X1 Y1 2)).toNat)))] := by
  unfold RunIs; cases nS <;> kernel_rfl
theorem gr_2 : RunIs Try.prog csIm [] 1000 2 Try.f31 [2, 4, 5, 6, 7] (seqL lpGr) (sGr nS X0 Y0 X1 Y1 lP cP px ss G0 G1 G2 G3 w M gx) []
    [([], [], .to .normal (sGy nS X0 Y0 X1 Y1 lP cP px ss G0 G1 G2 G3 w M gx Y0))] := by
  unfold RunIs; cases nS <;> kernel_rfl
theorem gr_3 (y : Int) : RunIs Try.prog csIm [(28, .split)] 1000 2 Try.f31 [2, 4, 5, 6, 7] (seqL (inner olGr)) (sGy nS X0 Y0 X1 Y1 lP cP px ss G0 G1 G2 G3 w M gx y) []
    [([(decide (y < Y1), true)], [], .to .normal (sGy nS X0 Y0 X1 Y1 lP cP px ss G0 G1 G2 G3 w M gx y)), ([(decide (y < Y1), false)], [], .to (.exit 0) (sGy nS X0 Y0 X1 Y1 lP cP px ss G0 G1 G2 G3 w M gx y))] := by
  unfold RunIs; cases nS <;> kernel_rfl
theorem gr_4 (y : Int) : RunIs Try.prog csIm [] 1000 2 Try.f31 [2, 4, 5, 6, 7, 8] (seqL (gI olGr)) (sGy nS X0 Y0 X1 Y1 lP cP px ss G0 G1 G2 G3 w M gx y) []
    [([], [], .to .normal (sGx nS X0 Y0 X1 Y1 lP cP px ss G0 G1 G2 G3 w M gx y X0))] := by
  unfold RunIs; cases nS <;> kernel_rfl
def idxW (G0 G1 w x y : Int) : Int := w64 (w64 (w64 (w64 (y - G1) * w) + x) - G0)
def gr5 (y x : Int) : List Prop := atA lP px (idxE X0 Y0 X1 x y) ++ [0 ≤ idxW G0 G1 w x y ∧ idxW G0 G1 w x y < (M : Int), 0 + (idxW G0 G1 w x y).toNat * 4 + 4 ≤ gx.length, upP x (x + 1)]
theorem gr_5 (y x : Int) : RunIs Try.prog csIm [(38, .split), (8, .give (.int .i64 (x + 1)))] 1000 2 Try.f31 [2, 4, 5, 6, 7, 8] (inner (gL olGr)) (sGx nS X0 Y0 X1 Y1 lP cP px ss G0 G1 G2 G3 w M gx y x) [.int .i64 G0, .int .i64 G1, .slc (some (5, 0)) M M 4]
    [([(decide (x < X1), true)], gr5 X0 Y0 X1 lP px G0 G1 w M gx y x, .to .normal (sGx nS X0 Y0 X1 Y1 lP cP px ss G0 G1 G2 G3 w M (putI gx (0 + (idxW G0 G1 w x y).toNat * 4) (q4l (pixQ px (idxE X0 Y0 X1 x y)))) y (x + 1))),
     ([(decide (x < X1), false)], [], .to (.exit 2) (sGx nS X0 Y0 X1 Y1 lP cP px ss G0 G1 G2 G3 w M gx y x))] := by
  unfold RunIs; cases nS <;> kernel_rfl
theorem gr_6 (y x : Int) : RunIs Try.prog csIm [(7, .give (.int .i64 (y + 1)))] 1000 2 Try.f31 [2, 4, 5, 6, 7] (seqR (gB1 olGr)) (sGx nS X0 Y0 X1 Y1 lP cP px ss G0 G1 G2 G3 w M gx y x) []
    [([], [upP y (y + 1)], .to .normal (sGy nS X0 Y0 X1 Y1 lP cP px ss G0 G1 G2 G3 w M gx (y + 1)))] := by
  unfold RunIs; cases nS <;> kernel_rfl
theorem gr_7 (y : Int) : RunIs Try.prog csIm [] 1000 2 Try.f31 [] enGr (sGy nS X0 Y0 X1 Y1 lP cP px ss G0 G1 G2 G3 w M gx y) []
    [([], [], .ret (.agg [.int .i64 G0, .int .i64 G1, .int .i64 G2, .int .i64 G3, .slc (some (2, 0)) M M 4]) (hL (rwL false 0 .u8 px ++ (rwL nS 1 .i64 ss ++ [(2, .own .u8 gx)]))) 3)] := by
  unfold RunIs; cases nS <;> kernel_rfl
theorem gr_n (y : Int) : normG 2 [2, 4, 5, 6, 7] (sGy nS X0 Y0 X1 Y1 lP cP px ss G0 G1 G2 G3 w M gx y) = some (sGy nS X0 Y0 X1 Y1 lP cP px ss G0 G1 G2 G3 w M gx y) := by
  cases nS <;> kernel_rfl
end
def grow2 (X0 Y0 X1 Y1 : Int) (px : List Int) (g0 : List Int) : Nat → List Int
  | 0 => g0
  | m + 1 => putI (grow2 X0 Y0 X1 Y1 px g0 m) (0 + (idxE (X0 - 2) (Y0 - 2) (X1 + 2) (X0 + Int.ofNat (m % (X1 - X0).toNat)) (Y0 + Int.ofNat (m / (X1 - X0).toNat))).toNat * 4) (q4l (pixQ px (idxE X0 Y0 X1 (X0 + Int.ofNat (m % (X1 - X0).toNat)) (Y0 + Int.ofNat (m / (X1 - X0).toNat)))))
structure SmR (X0 Y0 X1 Y1 : Int) : Prop where
  a : -500 ≤ X0
  b : -500 ≤ Y0
  c : X1 ≤ 500
  d : Y1 ≤ 500
  x : X0 < X1
  y : Y0 < Y1
section
variable {X0 Y0 X1 Y1 : Int} {px g0 : List Int} (hR : SmR X0 Y0 X1 Y1)
include hR
theorem grow2_at {x y : Int} (x1 : X0 ≤ x) (x2 : x < X1) (y1 : Y0 ≤ y) (y2 : y < Y1) : ∃ t, idxE (X0 - 2) (Y0 - 2) (X1 + 2) x y = Int.ofNat t ∧ t < rcN (X0 - 2) (Y0 - 2) (X1 + 2) (Y1 + 2) ∧ t = (y - (Y0 - 2)).toNat * (X1 + 2 - (X0 - 2)).toNat + (x - (X0 - 2)).toNat := by
  obtain ⟨a, b, c, d, _, _⟩ := hR
  exact ⟨_, (idx_nat (Y1 := Y1 + 2) ⟨by omega, by omega⟩ ⟨by omega, by omega⟩ ⟨by omega, by omega⟩ ⟨by omega, by omega⟩ (by omega) (by omega) (by omega) (by omega)).1, (idx_nat (Y1 := Y1 + 2) ⟨by omega, by omega⟩ ⟨by omega, by omega⟩ ⟨by omega, by omega⟩ ⟨by omega, by omega⟩ (by omega) (by omega) (by omega) (by omega)).2, rfl⟩
theorem plc {m : Nat} (h : m < rcN X0 Y0 X1 Y1) : X0 ≤ X0 + Int.ofNat (m % (X1 - X0).toNat) ∧ X0 + Int.ofNat (m % (X1 - X0).toNat) < X1 ∧ Y0 ≤ Y0 + Int.ofNat (m / (X1 - X0).toNat) ∧ Y0 + Int.ofNat (m / (X1 - X0).toNat) < Y1 := by
  obtain ⟨a, b, c, d, _, _⟩ := hR
  obtain ⟨_, h1, h2⟩ := idx_ab (a := X0) (b := Y0) (c := X1) (e := Y1) ⟨by omega, by omega⟩ ⟨by omega, by omega⟩ ⟨by omega, by omega⟩ ⟨by omega, by omega⟩ h
  have z1 : (0 : Int) ≤ Int.ofNat (m % (X1 - X0).toNat) := Int.natCast_nonneg _
  have z2 : (0 : Int) ≤ Int.ofNat (m / (X1 - X0).toNat) := Int.natCast_nonneg _
  exact ⟨by omega, h1, by omega, h2⟩
theorem grow2_len (hg : g0.length = rcN (X0 - 2) (Y0 - 2) (X1 + 2) (Y1 + 2) * 4) : ∀ m, m ≤ rcN X0 Y0 X1 Y1 → (grow2 X0 Y0 X1 Y1 px g0 m).length = rcN (X0 - 2) (Y0 - 2) (X1 + 2) (Y1 + 2) * 4
  | 0, _ => hg
  | m + 1, h => by
    have ih := grow2_len hg m (by omega)
    obtain ⟨h1, h2, h3, h4⟩ := plc hR (m := m) (by omega)
    obtain ⟨t, e, ht, _⟩ := grow2_at hR h1 h2 h3 h4
    show (putI (grow2 X0 Y0 X1 Y1 px g0 m) _ _).length = _
    rw [e, putI_len (by rw [ih]; show 0 + t * 4 + 4 ≤ _; omega), ih]
theorem grow2_pix (hg : g0.length = rcN (X0 - 2) (Y0 - 2) (X1 + 2) (Y1 + 2) * 4) : ∀ m, m ≤ rcN X0 Y0 X1 Y1 → ∀ j, j < m →
    pixQ (grow2 X0 Y0 X1 Y1 px g0 m) (idxE (X0 - 2) (Y0 - 2) (X1 + 2) (X0 + Int.ofNat (j % (X1 - X0).toNat)) (Y0 + Int.ofNat (j / (X1 - X0).toNat))) = pixQ px (idxE X0 Y0 X1 (X0 + Int.ofNat (j % (X1 - X0).toNat)) (Y0 + Int.ofNat (j / (X1 - X0).toNat)))
  | 0, _, j, hj => by omega
  | m + 1, h, j, hj => by
    obtain ⟨h1, h2, h3, h4⟩ := plc hR (m := m) (by omega)
    obtain ⟨t, e, ht, et⟩ := grow2_at hR h1 h2 h3 h4
    obtain ⟨k1, k2, k3, k4⟩ := plc hR (m := j) (by omega)
    obtain ⟨u, e', hu, eu⟩ := grow2_at hR k1 k2 k3 k4
    show pixQ (putI (grow2 X0 Y0 X1 Y1 px g0 m) _ _) _ = _
    rw [e, e']
    have e0 : (Int.ofNat t).toNat = t := rfl
    rw [e0, pixQ_put (by rw [grow2_len hR hg m (by omega)]; omega)]
    by_cases q : j = m
    · subst q
      have : u = t := by rw [eu, et]
      rw [if_pos this]
    · have hne : ¬ u = t := by
        intro q2
        apply q
        obtain ⟨p1, p2⟩ := idx_back (X0 := X0 - 2) (Y0 := Y0 - 2) (X1 := X1 + 2) (by omega) (by omega) (by omega) eu.symm
        obtain ⟨p3, p4⟩ := idx_back (X0 := X0 - 2) (Y0 := Y0 - 2) (X1 := X1 + 2) (by omega) (by omega) (by omega) et.symm
        rw [q2] at p1 p2
        have s1 : Int.ofNat (j % (X1 - X0).toNat) = Int.ofNat (m % (X1 - X0).toNat) := by omega
        have s2 : Int.ofNat (j / (X1 - X0).toNat) = Int.ofNat (m / (X1 - X0).toNat) := by omega
        have s3 := Int.ofNat.inj s1
        have s4 := Int.ofNat.inj s2
        rw [← Nat.div_add_mod j (X1 - X0).toNat, ← Nat.div_add_mod m (X1 - X0).toNat, s3, s4]
      rw [if_neg hne, ← e']
      exact grow2_pix hg m (by omega) j (by omega)
theorem grow2_eq (hg : g0.length = rcN (X0 - 2) (Y0 - 2) (X1 + 2) (Y1 + 2) * 4) {x y : Int} (x1 : X0 ≤ x) (x2 : x < X1) (y1 : Y0 ≤ y) (y2 : y < Y1) :
    pixQ (grow2 X0 Y0 X1 Y1 px g0 (rcN X0 Y0 X1 Y1)) (idxE (X0 - 2) (Y0 - 2) (X1 + 2) x y) = pixQ px (idxE X0 Y0 X1 x y) := by
  obtain ⟨a, b, c, d, _, _⟩ := id hR
  obtain ⟨_, h2⟩ := idx_nat (X0 := X0) (Y0 := Y0) (X1 := X1) (Y1 := Y1) (x := x) (y := y) ⟨by omega, by omega⟩ ⟨by omega, by omega⟩ ⟨by omega, by omega⟩ ⟨by omega, by omega⟩ x1 x2 y1 y2
  obtain ⟨p1, p2⟩ := idx_back (X0 := X0) (Y0 := Y0) (X1 := X1) x1 x2 y1 rfl
  have := grow2_pix hR (px := px) hg _ (Nat.le_refl _) _ h2
  rw [← p1, ← p2] at this
  exact this
end
end Go.Proofs.Ytadejpmecljjpaa
namespace Go.Proofs.Ytadejpmecljjpaa
open Go Go.Eng
section
variable (nS : Bool) (X0 Y0 X1 Y1 : Int) (lP cP : Nat) (px : List Int) (l cp z : Nat) (ss : List Int)
abbrev g0R : List Int := outR (imgQ (if nS then 0 else l) (if nS then [] else ss)) (rcN (X0 - 2) (Y0 - 2) (X1 + 2) (Y1 + 2))
theorem growQ2 {X0 Y0 X1 Y1 : Int} (hR : SmR X0 Y0 X1 Y1) : growQ X0 Y0 X1 Y1 2 = (X0 - 2, Y0 - 2, X1 + 2, Y1 + 2) := by
  obtain ⟨a, b, c, d, hx, hy⟩ := hR
  unfold growQ
  rw [emptyB_lt hx hy, if_neg (by simp)]
  unfold normQ
  rw [w64_id (x := X0 - 2) (by omega) (by omega), w64_id (x := Y0 - 2) (by omega) (by omega), w64_id (x := X1 + 2) (by omega) (by omega), w64_id (x := Y1 + 2) (by omega) (by omega), emptyB_lt (by omega) (by omega), if_neg (by simp)]
def grOk (X0 Y0 X1 Y1 : Int) (lP : Nat) (px : List Int) (l : Nat) (ss : List Int) : List Prop := [SmR X0 Y0 X1 Y1, lP = rcN X0 Y0 X1 Y1, lP * 4 ≤ px.length, l ≤ ss.length, l ≤ 1000000, rcN (X0 - 2) (Y0 - 2) (X1 + 2) (Y1 + 2) ≤ 1000000]
theorem tgGr (hA : ∀ p ∈ grOk X0 Y0 X1 Y1 lP px (if nS then 0 else l) (if nS then [] else ss), p) : TG Try.prog 2 Try.f31.ntmps cdGr (startSt [iV5 X0 Y0 X1 Y1 (slK false 0 lP cP z 4), slK nS 1 l cp z 1] (rH [rwK false .u8 px, rwK nS .i64 ss]) 2)
    (RetG Try.prog 2 Try.f31 fun u h n => u = .agg [.int .i64 (X0 - 2), .int .i64 (Y0 - 2), .int .i64 (X1 + 2), .int .i64 (Y1 + 2), .slc (some (2, 0)) (rcN (X0 - 2) (Y0 - 2) (X1 + 2) (Y1 + 2)) (rcN (X0 - 2) (Y0 - 2) (X1 + 2) (Y1 + 2)) 4] ∧
      h = hL (rwL false 0 .u8 px ++ (rwL nS 1 .i64 ss ++ [(2, .own .u8 (grow2 X0 Y0 X1 Y1 px (g0R nS X0 Y0 X1 Y1 l ss) (rcN X0 Y0 X1 Y1)))])) ∧ n = 3) := by
  have hR : SmR X0 Y0 X1 Y1 := hA _ (by simp [grOk])
  have hl : lP = rcN X0 Y0 X1 Y1 := hA _ (by simp [grOk])
  have h3 : lP * 4 ≤ px.length := hA _ (by simp [grOk])
  have h4 : (if nS then 0 else l) ≤ (if nS then [] else ss).length := hA _ (by simp [grOk])
  have h5 : (if nS then 0 else l) ≤ 1000000 := hA _ (by simp [grOk])
  have h6 : rcN (X0 - 2) (Y0 - 2) (X1 + 2) (Y1 + 2) ≤ 1000000 := hA _ (by simp [grOk])
  have hgl : (g0R nS X0 Y0 X1 Y1 l ss).length = rcN (X0 - 2) (Y0 - 2) (X1 + 2) (Y1 + 2) * 4 := outR_len _ _
  obtain ⟨a, b, c, d, hx, hy⟩ := id hR
  have ar : arQ (growQ X0 Y0 X1 Y1 2) = (rcN (X0 - 2) (Y0 - 2) (X1 + 2) (Y1 + 2) : Int) := by
    rw [growQ2 hR]
    exact (rcN_eq (a := X0 - 2) (b := Y0 - 2) (c := X1 + 2) (e := Y1 + 2) ⟨by omega, by omega⟩ ⟨by omega, by omega⟩ ⟨by omega, by omega⟩ ⟨by omega, by omega⟩ (by omega) (by omega)).symm
  have hpos : 0 < rcN (X0 - 2) (Y0 - 2) (X1 + 2) (Y1 + 2) := rcN_pos (emptyB_lt (by omega) (by omega))
  have h1 := gr_1 nS X0 Y0 X1 Y1 lP cP px l cp z ss
  rw [ar, growQ2 hR, Int.toNat_natCast] at h1
  refine TG_isN1 3 XIm mo (by kernel_rfl) h1 (fun p hp => ?_) ?_
  · simp only [List.mem_cons, List.not_mem_nil, or_false] at hp
    rcases hp with rfl | rfl | rfl | rfl
    · exact h4
    · exact h5
    · omega
    · omega
  have hw : gw (X0 - 2, Y0 - 2, X1 + 2, Y1 + 2) = w64 (X1 + 2 - (X0 - 2)) := rfl
  rw [hw]
  show TG Try.prog 2 Try.f31.ntmps (tailN 3 cdGr) (sGr nS X0 Y0 X1 Y1 lP cP px ss (X0 - 2) (Y0 - 2) (X1 + 2) (Y1 + 2) (w64 (X1 + 2 - (X0 - 2))) (rcN (X0 - 2) (Y0 - 2) (X1 + 2) (Y1 + 2)) (g0R nS X0 Y0 X1 Y1 l ss)) _
  generalize g0R nS X0 Y0 X1 Y1 l ss = g0 at hgl ⊢
  have hlen := fun m (h : m ≤ rcN X0 Y0 X1 Y1) => grow2_len hR (px := px) hgl m h
  generalize hM : rcN (X0 - 2) (Y0 - 2) (X1 + 2) (Y1 + 2) = M at *
  refine TG_seq' (by kernel_rfl) ?_
  refine TG_isSeq XIm mo anyR (by kernel_rfl) (by kernel_rfl) (gr_2 nS X0 Y0 X1 Y1 lP cP px ss (X0 - 2) (Y0 - 2) (X1 + 2) (Y1 + 2) (w64 (X1 + 2 - (X0 - 2))) M g0) fun g hg _ => ?_
  rw [List.mem_singleton] at hg; subst hg
  refine ⟨by simp, fun s' hs' => TG_norm hs' ?_⟩
  refine TG_block (i := 0) (by kernel_rfl) (TG_mono (TG_grid (i1 := 1) (i2 := 2) (io := 0) (LY := [2, 4, 5, 6, 7]) (LX := [2, 4, 5, 6, 7, 8]) (fn := Try.f31) (F := 1000) (Hy := [(28, .split)]) (a := X0) (b := Y0) (c := X1) (e := Y1)
      (SY := fun m y => sGy nS X0 Y0 X1 Y1 lP cP px ss (X0 - 2) (Y0 - 2) (X1 + 2) (Y1 + 2) (w64 (X1 + 2 - (X0 - 2))) M (grow2 X0 Y0 X1 Y1 px g0 m) y)
      (SX := fun m y x => sGx nS X0 Y0 X1 Y1 lP cP px ss (X0 - 2) (Y0 - 2) (X1 + 2) (Y1 + 2) (w64 (X1 + 2 - (X0 - 2))) M (grow2 X0 Y0 X1 Y1 px g0 m) y x)
      XIm mo (by kernel_rfl) (by omega) (by omega)
      (fun m y => gr_3 nS X0 Y0 X1 Y1 lP cP px ss (X0 - 2) (Y0 - 2) (X1 + 2) (Y1 + 2) _ M _ y)
      (fun m y => gr_4 nS X0 Y0 X1 Y1 lP cP px ss (X0 - 2) (Y0 - 2) (X1 + 2) (Y1 + 2) _ M _ y)
      (fun m y x => ⟨_, gr_6 nS X0 Y0 X1 Y1 lP cP px ss (X0 - 2) (Y0 - 2) (X1 + 2) (Y1 + 2) _ M _ y x⟩)
      (fun i j hi hj => ?_) ⟨_, gr_n nS X0 Y0 X1 Y1 lP cP px ss (X0 - 2) (Y0 - 2) (X1 + 2) (Y1 + 2) _ M _ Y0⟩) ?_)
  · have hI : Int.ofNat i = (i : Int) := rfl
    have hJ : Int.ofNat j = (j : Int) := rfl
    by_cases hjl : j < (X1 - X0).toNat
    · have e1 : (i * (X1 - X0).toNat + j) % (X1 - X0).toNat = j := by rw [Nat.mul_comm, Nat.mul_add_mod, Nat.mod_eq_of_lt hjl]
      have e2 : (i * (X1 - X0).toNat + j) / (X1 - X0).toNat = i := by rw [Nat.mul_comm, Nat.mul_add_div (by omega), Nat.div_eq_of_lt hjl, Nat.add_zero]
      have hlt : i * (X1 - X0).toNat + j < rcN X0 Y0 X1 Y1 := by
        have h7 := Nat.mul_le_mul_right (X1 - X0).toNat (show i + 1 ≤ (Y1 - Y0).toNat by omega)
        rw [Nat.add_mul, Nat.one_mul] at h7
        unfold rcN; omega
      have hg : grow2 X0 Y0 X1 Y1 px g0 (i * (X1 - X0).toNat + j + 1) = putI (grow2 X0 Y0 X1 Y1 px g0 (i * (X1 - X0).toNat + j)) (0 + (idxW (X0 - 2) (Y0 - 2) (w64 (X1 + 2 - (X0 - 2))) (X0 + Int.ofNat j) (Y0 + Int.ofNat i)).toNat * 4) (q4l (pixQ px (idxE X0 Y0 X1 (X0 + Int.ofNat j) (Y0 + Int.ofNat i)))) := by
        show putI _ _ _ = _
        rw [e1, e2]; rfl
      have h8 := gr_5 nS X0 Y0 X1 Y1 lP cP px ss (X0 - 2) (Y0 - 2) (X1 + 2) (Y1 + 2) (w64 (X1 + 2 - (X0 - 2))) M (grow2 X0 Y0 X1 Y1 px g0 (i * (X1 - X0).toNat + j)) (Y0 + Int.ofNat i) (X0 + Int.ofNat j)
      rw [← hg] at h8
      refine GStep.of XIm mo hj (by kernel_rfl) h8 fun _ p hp => ?_
      have ho : atA lP px (idxE X0 Y0 X1 (X0 + Int.ofNat j) (Y0 + Int.ofNat i)) = [0 ≤ idxE X0 Y0 X1 (X0 + Int.ofNat j) (Y0 + Int.ofNat i) ∧ idxE X0 Y0 X1 (X0 + Int.ofNat j) (Y0 + Int.ofNat i) < Int.ofNat lP, 0 + (idxE X0 Y0 X1 (X0 + Int.ofNat j) (Y0 + Int.ofNat i)).toNat * 4 + 4 ≤ px.length] := rfl
      obtain ⟨q1, q2⟩ := idx_nat (X0 := X0) (Y0 := Y0) (X1 := X1) (Y1 := Y1) (x := X0 + Int.ofNat j) (y := Y0 + Int.ofNat i) ⟨by omega, by omega⟩ ⟨by omega, by omega⟩ ⟨by omega, by omega⟩ ⟨by omega, by omega⟩ (by omega) (by omega) (by omega) (by omega)
      obtain ⟨t, q3, q4, _⟩ := grow2_at hR (x := X0 + Int.ofNat j) (y := Y0 + Int.ofNat i) (by omega) (by omega) (by omega) (by omega)
      have q3' : idxW (X0 - 2) (Y0 - 2) (w64 (X1 + 2 - (X0 - 2))) (X0 + Int.ofNat j) (Y0 + Int.ofNat i) = Int.ofNat t := q3
      unfold gr5 at hp
      rw [ho, q1, q3'] at hp
      generalize (Y0 + Int.ofNat i - Y0).toNat * (X1 - X0).toNat + (X0 + Int.ofNat j - X0).toNat = u at q2 hp
      have eu : (Int.ofNat u).toNat = u := rfl
      have et : (Int.ofNat t).toNat = t := rfl
      have zu : Int.ofNat u = (u : Int) := rfl
      have zt : Int.ofNat t = (t : Int) := rfl
      have zl : Int.ofNat lP = (lP : Int) := rfl
      rw [hM] at q4
      rw [eu, et, zu, zt, zl, hlen _ (by omega)] at hp
      simp only [List.cons_append, List.nil_append, List.mem_cons, List.not_mem_nil, or_false] at hp
      rcases hp with rfl | rfl | rfl | rfl | rfl
      · omega
      · omega
      · omega
      · omega
      · exact upI (by omega) (by omega)
    · have h8 := gr_5 nS X0 Y0 X1 Y1 lP cP px ss (X0 - 2) (Y0 - 2) (X1 + 2) (Y1 + 2) (w64 (X1 + 2 - (X0 - 2))) M (grow2 X0 Y0 X1 Y1 px g0 (i * (X1 - X0).toNat + j)) (Y0 + Int.ofNat i) (X0 + Int.ofNat j)
      refine TG_is XIm mo anyR (by kernel_rfl) h8 fun g hg hcc => ?_
      simp only [List.mem_cons, List.not_mem_nil, or_false] at hg
      rcases hg with rfl | rfl
      · exact absurd (of_decide_eq_true (hcc _ (List.mem_singleton.2 rfl))) (by omega)
      · exact ⟨by simp, fun s' hs' => .inr ⟨by omega, rfl, _, hs'⟩⟩
  · rintro y s2 ⟨rfl, L, yy, hs2⟩
    rw [outOf_exit]
    simp only [andThen]
    refine TG_norm hs2 ?_
    have e : (Y1 - Y0).toNat * (X1 - X0).toNat = rcN X0 Y0 X1 Y1 := rfl
    rw [e]
    refine TG_ret XIm mo _ (by kernel_rfl) (gr_7 nS X0 Y0 X1 Y1 lP cP px ss (X0 - 2) (Y0 - 2) (X1 + 2) (Y1 + 2) _ M _ yy) fun g hg _ => ?_
    rw [List.mem_singleton] at hg; subst hg
    exact ⟨by simp, _, _, _, rfl, rfl, rfl, rfl⟩
end
def specGr (args : List V) (h : Tr O) (n : Nat) : Option (List Prop × V × Tr O × Nat) := match args with
  | [.agg [.int .i64 X0, .int .i64 Y0, .int .i64 X1, .int .i64 Y1, P], s] => match rowK .u8 4 (softT h) P, rowK .i64 1 (softT h) s with
    | some (some _, lP, px), some (_, l, ss) => match emb [] 2 (.agg [.int .i64 (X0 - 2), .int .i64 (Y0 - 2), .int .i64 (X1 + 2), .int .i64 (Y1 + 2), .slc (some (2, 0)) (rcN (X0 - 2) (Y0 - 2) (X1 + 2) (Y1 + 2)) (rcN (X0 - 2) (Y0 - 2) (X1 + 2) (Y1 + 2)) 4], hL [(2, .own .u8 (grow2 X0 Y0 X1 Y1 px (outR (imgQ l ss) (rcN (X0 - 2) (Y0 - 2) (X1 + 2) (Y1 + 2))) (rcN X0 Y0 X1 Y1)))], 3) h n with
      | some r => some (grOk X0 Y0 X1 Y1 lP px l ss, r)
      | none => none
    | _, _ => none
  | _ => none
theorem one_Gr : OneW Try.prog 31 specGr := by
  refine ⟨Nat.le_of_ble_eq_true (by kernel_rfl), fun args h n A v h' n' e0 hA E w args' ra g hd hc => ?_⟩
  unfold specGr at e0
  split at e0
  case h_2 => cases e0
  rename_i X0 Y0 X1 Y1 P s
  split at e0
  case h_2 => cases e0
  rename_i aP lP px aS l ss hP hS
  split at e0
  case h_2 => cases e0
  rename_i r he
  simp only [Option.some.injEq, Prod.mk.injEq] at e0
  obtain ⟨rfl, rfl⟩ := e0
  obtain ⟨nP, cP, zP, RP⟩ := rowArg hP
  obtain ⟨nS, cp, z, RS⟩ := rowArg hS
  obtain rfl : nP = false := RP.nn
  obtain ⟨y, ys, r0, ⟨y2, ys2, r1, rs, rfl⟩, rfl⟩ := ra
  have rs : ys2 = [] := rs
  subst rs
  have el : (if nS then 0 else l) = l ∧ (if nS then [] else ss) = ss := by
    cases nS with
    | true => rw [(RS.nl rfl).1, (RS.nl rfl).2]; exact ⟨rfl, rfl⟩
    | false => exact ⟨rfl, rfl⟩
  obtain ⟨g2, d2, n2⟩ := rows_ok (soft_good g) [some aP, aS] [rwK false .u8 px, rwK nS .i64 ss] (Nat.le_of_ble_eq_true rfl) (by
    intro j k' ks' hj
    match j, hj with
    | 0, hj => obtain ⟨m, o, full, e, q⟩ := RP.row k' ks' (Option.some.inj hj); exact ⟨m, o, full, by rw [← e]; rfl, q⟩
    | 1, hj => obtain ⟨m, o, full, rfl, q⟩ := RS.row k' ks' (Option.some.inj hj); exact ⟨m, o, full, rfl, q⟩
    | j + 2, hj => simp at hj)
  have ht := tgGr nS X0 Y0 X1 Y1 lP cP px l cp z ss (by rw [el.1, el.2]; exact hA)
  have hz : slK false 0 lP cP z 4 = slK false 0 lP cP zP 4 := rfl
  unfold g0R at ht
  rw [el.1, el.2, hz] at ht
  have er : emb [] 2 (.agg [.int .i64 (X0 - 2), .int .i64 (Y0 - 2), .int .i64 (X1 + 2), .int .i64 (Y1 + 2), .slc (some (2, 0)) (rcN (X0 - 2) (Y0 - 2) (X1 + 2) (Y1 + 2)) (rcN (X0 - 2) (Y0 - 2) (X1 + 2) (Y1 + 2)) 4], hL (rwL false 0 .u8 px ++ (rwL nS 1 .i64 ss ++ [(2, .own .u8 (grow2 X0 Y0 X1 Y1 px (outR (imgQ l ss) (rcN (X0 - 2) (Y0 - 2) (X1 + 2) (Y1 + 2))) (rcN X0 Y0 X1 Y1)))])), 3) h n = some (v, h', n') := by
    rw [← List.append_assoc, emb_rows 2 n 3 (rwL false 0 .u8 px ++ rwL nS 1 .i64 ss) _ _ h (by kernel_rfl) (by cases nS <;> rfl) (by rfl)]
    exact he
  exact (calls_of_TG1 mo po Try.func31 (by kernel_rfl) (by kernel_rfl) _ _ _ ht (E := E.rows [some aP, aS]) ⟨y, _, im_rel (fun t q => RP.rel E _ 0 t rfl q) r0, ⟨y2, [], RS.rel E _ 1 y2 rfl r1, rfl, rfl⟩, rfl⟩ g2 d2).mono fun en w' c' => emb_ok (E1 := E.rows [some aP, aS]) g hd rfl (fun m m' _ q => by cases q) n2 er c'
end Go.Proofs.Ytadejpmecljjpaa
