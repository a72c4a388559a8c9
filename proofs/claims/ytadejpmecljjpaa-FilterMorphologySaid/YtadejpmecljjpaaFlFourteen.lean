/- Filter laws anew, part RA: rows as arguments, nil or not. No conditions. -/
import Derived.Test.YtadejpmecljjpaaFlTwelve
import Derived.Test.YtadejpmecljjpaaFlThirteen
set_option linter.unusedVariables false
set_option linter.unusedSimpArgs false
set_option linter.unusedSectionVars false
namespace Go.Proofs.Ytadejpmecljjpaa
open Go Go.Eng
def slK (nil : Bool) (pos l c z e : Nat) : V := match nil with | true => .slc none 0 c z | false => .slc (some (pos, 0)) l c e
def rwK (nil : Bool) (k : IntKind) (ks : List Int) : Option (IntKind × List Int) := match nil with | true => none | false => some (k, ks)
structure RowArg (k : IntKind) (esz : Nat) (h : Tr O) (v : V) (a : Option (Nat × Nat)) (l : Nat) (ks : List Int) (nil : Bool) (c z : Nat) : Prop where
  nn : nil = a.isNone
  nl : nil = true → l = 0 ∧ ks = []
  rel : ∀ (E : Env) ns j y, ns.getD j none = a → vrel E v y → vrel (E.rows ns) (slK nil j l c z esz) y
  row : ∀ k' ks', rwK nil k ks = some (k', ks') → ∃ m o full, a = some (m, o) ∧ h.get m = some (.ints k' full) ∧ full.drop o = ks'
theorem rowArg {k : IntKind} {esz : Nat} {h : Tr O} {v : V} {a : Option (Nat × Nat)} {l : Nat} {ks : List Int} (e : rowK k esz h v = some (a, l, ks)) : ∃ nil c z, RowArg k esz h v a l ks nil c z := by
  rcases rowK_cases e with ⟨c, z, rfl, rfl, rfl, rfl⟩ | ⟨m, o, c, full, rfl, rfl, hm, hd⟩
  · exact ⟨true, c, z, ⟨rfl, fun _ => ⟨rfl, rfl⟩, fun E ns j y _ q => nil_any q, fun k1 ks1 q => by cases q⟩⟩
  · exact ⟨false, c, 0, ⟨rfl, fun q => Bool.noConfusion q, fun E ns j y hj q => rows_slc hj q, fun k1 ks1 q => by cases q; exact ⟨m, o, full, rfl, hm, hd⟩⟩⟩
end Go.Proofs.Ytadejpmecljjpaa
namespace Go.Proofs.Ytadejpmecljjpaa
open Go Go.Eng
abbrev gB1 (ol : Code) : Code := seqR (inner ol)
abbrev gI (ol : Code) : Code := inner (seqL (gB1 ol))
abbrev gL (ol : Code) : Code := inner (seqR (gI ol))
section
variable {P : Program} {n0 N : Nat} {fn : Func} {ol : Code} {i1 i2 io : Nat} {LY LX : List Nat} {SY : Nat → Int → St} {SX : Nat → Int → Int → St} {a b c e : Int} {Hy : List (Nat × Fix)} {F : Nat}
def GStep (P : Program) (n0 N : Nat) (SX : Nat → Int → Int → St) (i2 : Nat) (a b c : Int) (ol : Code) (i j : Nat) : Prop :=
  TG P n0 N (inner (gL ol)) (SX (i * (c - a).toNat + j) (b + Int.ofNat i) (a + Int.ofNat j)) (fun y s' => (j < (c - a).toNat ∧ y = .normal ∧ ∃ L s1 o, normG n0 L s' = some s1 ∧ ownS o s1 = some (SX (i * (c - a).toNat + j + 1) (b + Int.ofNat i) (a + Int.ofNat j + 1))) ∨
    (j = (c - a).toNat ∧ y = .exit i2 ∧ ∃ L, normG n0 L s' = some (SX (i * (c - a).toNat + j) (b + Int.ofNat i) (a + Int.ofNat j))))
theorem GStep.of {LX' : List Nat} {H : List (Nat × Fix)} {A : List Prop} {Lr : List V} (X' : CX P) (hm : P.follows .mixedOrders = true) {i j : Nat} (hj : j ≤ (c - a).toNat) (hc : codeOk N (inner (gL ol)) = true)
    (hr : RunIs P X'.cs H F n0 fn LX' (inner (gL ol)) (SX (i * (c - a).toNat + j) (b + Int.ofNat i) (a + Int.ofNat j)) Lr [([(decide (a + Int.ofNat j < c), true)], A, .to .normal (SX (i * (c - a).toNat + j + 1) (b + Int.ofNat i) (a + Int.ofNat j + 1))), ([(decide (a + Int.ofNat j < c), false)], [], .to (.exit i2) (SX (i * (c - a).toNat + j) (b + Int.ofNat i) (a + Int.ofNat j)))])
    (hA : j < (c - a).toNat → ∀ p ∈ A, p) : GStep P n0 N SX i2 a b c ol i j := by
  have hJ : Int.ofNat j = (j : Int) := rfl
  have htest : (a + Int.ofNat j < c) ↔ j < (c - a).toNat := by rw [hJ]; omega
  refine TG_is X' hm anyR hc hr fun g hg hcc => ?_
  simp only [List.mem_cons, List.not_mem_nil, or_false] at hg
  rcases hg with rfl | rfl
  · have hlt : j < (c - a).toNat := htest.1 (of_decide_eq_true (hcc _ (List.mem_singleton.2 rfl)))
    exact ⟨hA hlt, fun s' hs' => .inl ⟨hlt, rfl, LX', _, [], hs', rfl⟩⟩
  · have hge : ¬ j < (c - a).toNat := fun q => (of_decide_eq_false (hcc _ (List.mem_singleton.2 rfl))) (htest.2 q)
    exact ⟨by simp, fun s' hs' => .inr ⟨by omega, rfl, LX', hs'⟩⟩
end
end Go.Proofs.Ytadejpmecljjpaa
namespace Go.Proofs.Ytadejpmecljjpaa
open Go Go.Eng
def iV5 (X0 Y0 X1 Y1 : Int) (P : V) : V := .agg [.int .i64 X0, .int .i64 Y0, .int .i64 X1, .int .i64 Y1, P]
def rwL (nil : Bool) (pos : Nat) (k : IntKind) (ks : List Int) : List (Nat × O) := match nil with | true => [] | false => [(pos, .ints k ks)]
noncomputable abbrev cdSm : Code := bodyOf Try.f17
noncomputable abbrev lpSm : Code := seqL (tailN 2 cdSm)
noncomputable abbrev loSm : Code := inner (seqR lpSm)
noncomputable abbrev enSm : Code := seqR (tailN 2 cdSm)
section
variable (nP nQ : Bool) (X0 Y0 X1 Y1 A B C D : Int) (lP cP zP lQ cQ zQ : Nat) (px qx : List Int)
def stSm : St := startSt [iV5 X0 Y0 X1 Y1 (slK nP 0 lP cP zP 4), iV5 A B C D (slK nQ 1 lQ cQ zQ 4)] (rH [rwK nP .u8 px, rwK nQ .u8 qx]) 2
def lsSm : List (Nat × O) := rwL nP 0 .u8 px ++ (rwL nQ 1 .u8 qx ++ [(2, .cells (iV5 X0 Y0 X1 Y1 (slK nP 0 lP cP zP 4)).cells), (3, .cells (iV5 A B C D (slK nQ 1 lQ cQ zQ 4)).cells)])
def frSm : List (Nat × V) := [(2, .ptr (some (2, 0))), (3, .ptr (some (3, 0)))]
def sSm0 : St := stG frSm (hL (lsSm nP nQ X0 Y0 X1 Y1 A B C D lP cP zP lQ cQ zQ px qx)) 4
def sSm (i : Nat) : St := stG (frSm ++ [(5, .int .i64 (Int.ofNat i))]) (hL (lsSm nP nQ X0 Y0 X1 Y1 A B C D lP cP zP lQ cQ zQ px qx)) 4
theorem sm_1 : RunIs Try.prog csH [(10, .give (.bool false)), (18, .give (.bool false))] 1000 2 Try.f17 [2, 3] (headN 2 cdSm) (stSm nP nQ X0 Y0 X1 Y1 A B C D lP cP zP lQ cQ zQ px qx) []
    [([], [pBq (!rcE (X0, Y0, X1, Y1) A B C D) false, pBq (((if nP then 0 else lP : Nat) : Int) != ((if nQ then 0 else lQ : Nat) : Int)) false], .to .normal (sSm0 nP nQ X0 Y0 X1 Y1 A B C D lP cP zP lQ cQ zQ px qx))] := by
  unfold RunIs; cases nP <;> cases nQ <;> kernel_rfl
theorem sm_2 : RunIs Try.prog csH [] 1000 2 Try.f17 [2, 3, 5] (seqL lpSm) (sSm0 nP nQ X0 Y0 X1 Y1 A B C D lP cP zP lQ cQ zQ px qx) []
    [([], [], .to .normal (sSm nP nQ X0 Y0 X1 Y1 A B C D lP cP zP lQ cQ zQ px qx 0))] := by
  unfold RunIs; cases nP <;> cases nQ <;> kernel_rfl
theorem sm_3 (i : Nat) : RunIs Try.prog csH [(24, .split), (37, .give (.bool false)), (5, .give (.int .i64 (Int.ofNat (i + 1))))] 1000 2 Try.f17 [2, 3, 5] (inner loSm) (sSm false false X0 Y0 X1 Y1 A B C D lP cP zP lQ cQ zQ px qx i) []
    [([(decide (Int.ofNat i < (lP : Int)), true)], [0 ≤ Int.ofNat i ∧ Int.ofNat i < (lP : Int), 0 + (Int.ofNat i).toNat * 4 + 4 ≤ px.length, 0 ≤ Int.ofNat i ∧ Int.ofNat i < (lQ : Int), 0 + (Int.ofNat i).toNat * 4 + 4 ≤ qx.length, pBq (!q4E (g4 px (0 + i * 4)) (g4 qx (0 + i * 4))) false, upP (Int.ofNat i) (Int.ofNat (i + 1))],
      .to .normal (sSm false false X0 Y0 X1 Y1 A B C D lP cP zP lQ cQ zQ px qx (i + 1))),
     ([(decide (Int.ofNat i < (lP : Int)), false)], [], .to (.exit 0) (sSm false false X0 Y0 X1 Y1 A B C D lP cP zP lQ cQ zQ px qx i))] := by
  unfold RunIs; kernel_rfl
theorem sm_30 : RunIs Try.prog csH [] 1000 2 Try.f17 [2, 3, 5] (inner loSm) (sSm nP nQ X0 Y0 X1 Y1 A B C D 0 cP zP lQ cQ zQ px qx 0) []
    [([], [], .to (.exit 0) (sSm nP nQ X0 Y0 X1 Y1 A B C D 0 cP zP lQ cQ zQ px qx 0))] := by
  unfold RunIs; cases nP <;> cases nQ <;> kernel_rfl
theorem sm_4 (i : Nat) : ∃ h n, RunIs Try.prog csH [] 1000 2 Try.f17 [] enSm (sSm nP nQ X0 Y0 X1 Y1 A B C D lP cP zP lQ cQ zQ px qx i) []
    [([], [], .ret (.bool true) h n)] := by
  refine ⟨hL (rwL nP 0 .u8 px ++ rwL nQ 1 .u8 qx), 2, ?_⟩
  unfold RunIs; cases nP <;> cases nQ <;> kernel_rfl
def smOk (X0 Y0 X1 Y1 A B C D : Int) (lP lQ : Nat) (px qx : List Int) : List Prop := [X0 = A ∧ Y0 = B ∧ X1 = C ∧ Y1 = D, lP = lQ, lP * 4 ≤ px.length, lP * 4 ≤ qx.length, lP ≤ 300000, ∀ i, i < lP → pixQ px (Int.ofNat i) = pixQ qx (Int.ofNat i)]
theorem tgSm (hP : nP = true → lP = 0) (hQ : nQ = true → lQ = 0) (hA : ∀ p ∈ smOk X0 Y0 X1 Y1 A B C D lP lQ px qx, p) : TG Try.prog 2 Try.f17.ntmps cdSm (stSm nP nQ X0 Y0 X1 Y1 A B C D lP cP zP lQ cQ zQ px qx) (RetG Try.prog 2 Try.f17 fun u _ _ => u = .bool true) := by
  have h1 : X0 = A ∧ Y0 = B ∧ X1 = C ∧ Y1 = D := hA _ (by simp [smOk])
  have h2 : lP = lQ := hA _ (by simp [smOk])
  have h3 : lP * 4 ≤ px.length := hA _ (by simp [smOk])
  have h4 : lP * 4 ≤ qx.length := hA _ (by simp [smOk])
  have h5 : lP ≤ 300000 := hA _ (by simp [smOk])
  have h6 : ∀ i, i < lP → pixQ px (Int.ofNat i) = pixQ qx (Int.ofNat i) := hA _ (by simp [smOk])
  obtain ⟨rfl, rfl, rfl, rfl⟩ := h1
  subst h2
  have hf1 : ∀ {x : Bool}, x = true → pBq (!x) false := fun h => pBq_f (by rw [h]; rfl)
  refine TG_isN1 2 XH mo (by kernel_rfl) (sm_1 nP nQ X0 Y0 X1 Y1 X0 Y0 X1 Y1 lP cP zP lP cQ zQ px qx) (fun p hp => ?_) ?_
  · simp only [List.mem_cons, List.not_mem_nil, or_false] at hp
    rcases hp with rfl | rfl
    · exact hf1 (rcE_self ..)
    · refine pBq_f (bne_eq_false_iff_eq.2 ?_)
      have e1 : (if nP then 0 else lP) = lP := by
        cases nP with
        | true => rw [hP rfl]; rfl
        | false => rfl
      have e2 : (if nQ then 0 else lP) = lP := by
        cases nQ with
        | true => rw [hQ rfl]; rfl
        | false => rfl
      rw [e1, e2]
  refine TG_seq' (by kernel_rfl) ?_
  refine TG_isSeq XH mo anyR (by kernel_rfl) (by kernel_rfl) (sm_2 nP nQ X0 Y0 X1 Y1 X0 Y0 X1 Y1 lP cP zP lP cQ zQ px qx) fun g hg _ => ?_
  rw [List.mem_singleton] at hg; subst hg
  refine ⟨by simp, fun s' hs' => ?_⟩
  refine TG_block (i := 0) (by kernel_rfl) (TG_mono (Q1 := fun y s2 => y = .exit 0 ∧ ∃ i L, normG 2 L s2 = some (sSm nP nQ X0 Y0 X1 Y1 X0 Y0 X1 Y1 lP cP zP lP cQ zQ px qx i)) ?_ ?_)
  · refine TG_loop_inv (fun k' s => ∃ i, k' = lP - i ∧ i ≤ lP ∧ ∃ L, normG 2 L s = some (sSm nP nQ X0 Y0 X1 Y1 X0 Y0 X1 Y1 lP cP zP lP cQ zQ px qx i)) (by kernel_rfl) ?_ lP ⟨0, rfl, Nat.zero_le _, _, hs'⟩
    rintro k' s ⟨i, hk', hi, L, hs⟩
    refine TG_norm hs ?_
    have key : lP = 0 → TG Try.prog 2 Try.f17.ntmps (inner loSm) (sSm nP nQ X0 Y0 X1 Y1 X0 Y0 X1 Y1 lP cP zP lP cQ zQ px qx i) (andThen (fun s' => ∃ k', k' < lP - i ∧ ∃ i, k' = lP - i ∧ i ≤ lP ∧ ∃ L, normG 2 L s' = some (sSm nP nQ X0 Y0 X1 Y1 X0 Y0 X1 Y1 lP cP zP lP cQ zQ px qx i)) fun y s2 => y = .exit 0 ∧ ∃ i L, normG 2 L s2 = some (sSm nP nQ X0 Y0 X1 Y1 X0 Y0 X1 Y1 lP cP zP lP cQ zQ px qx i)) := by
      rintro rfl
      obtain rfl : i = 0 := by omega
      refine TG_is XH mo anyR (by kernel_rfl) (sm_30 nP nQ X0 Y0 X1 Y1 X0 Y0 X1 Y1 cP zP 0 cQ zQ px qx) fun g hg hc => ?_
      rw [List.mem_singleton] at hg; subst hg
      exact ⟨by simp, fun s' hs' => ⟨rfl, 0, _, hs'⟩⟩
    rw [hk']
    cases nP with
    | true => exact key (hP rfl)
    | false =>
      cases nQ with
      | true => exact key (hQ rfl)
      | false =>
        refine TG_is XH mo anyR (by kernel_rfl) (sm_3 X0 Y0 X1 Y1 X0 Y0 X1 Y1 lP cP zP lP cQ zQ px qx i) fun g hg hc => ?_
        simp only [List.mem_cons, List.not_mem_nil, or_false] at hg
        have hI : Int.ofNat i = (i : Int) := rfl
        have e0 : (Int.ofNat i).toNat = i := rfl
        rcases hg with rfl | rfl
        · have hlt : i < lP := by
            have := of_decide_eq_true (hc _ (List.mem_singleton.2 rfl))
            rw [hI] at this; omega
          refine ⟨fun p hp => ?_, fun s' hs' => ⟨lP - (i + 1), by omega, i + 1, rfl, by omega, _, hs'⟩⟩
          simp only [List.mem_cons, List.not_mem_nil, or_false] at hp
          rcases hp with rfl | rfl | rfl | rfl | rfl | rfl
          · rw [hI]; omega
          · rw [e0]; omega
          · rw [hI]; omega
          · rw [e0]; omega
          · refine hf1 ?_
            rw [g4_pix, g4_pix, h6 i hlt]; exact q4E_self _
          · exact upN (by omega)
        · exact ⟨by simp, fun s' hs' => ⟨rfl, i, _, hs'⟩⟩
  · rintro y s2 ⟨rfl, i, L, hs2⟩
    rw [outOf_exit]
    simp only [andThen]
    refine TG_norm hs2 ?_
    obtain ⟨h', n', hr'⟩ := sm_4 nP nQ X0 Y0 X1 Y1 X0 Y0 X1 Y1 lP cP zP lP cQ zQ px qx i
    refine TG_ret XH mo _ (by kernel_rfl) hr' fun g hg _ => ?_
    rw [List.mem_singleton] at hg; subst hg
    exact ⟨by simp, _, _, _, rfl, rfl⟩
end
def specSam : List V → Tr O → Option (List Prop × V)
  | [.agg [.int .i64 X0, .int .i64 Y0, .int .i64 X1, .int .i64 Y1, P], .agg [.int .i64 A, .int .i64 B, .int .i64 C, .int .i64 D, Q]], h => match rowK .u8 4 h P, rowK .u8 4 h Q with
    | some (_, lP, px), some (_, lQ, qx) => some (smOk X0 Y0 X1 Y1 A B C D lP lQ px qx, .bool true)
    | _, _ => none
  | _, _ => none
theorem one_Sam : PureA Try.prog 17 specSam := by
  refine ⟨Nat.le_of_ble_eq_true (by kernel_rfl), fun args h A u e => ?_⟩
  unfold specSam at e
  split at e
  case h_2 => cases e
  rename_i X0 Y0 X1 Y1 P A B C D Q
  split at e
  case h_2 => cases e
  rename_i aP lP px aQ lQ qx hP hQ
  simp only [Option.some.injEq, Prod.mk.injEq] at e; obtain ⟨rfl, rfl⟩ := e
  refine ⟨rfl, fun hA E n w args' ra g hd hc => ?_⟩
  obtain ⟨nP, cP, zP, RP⟩ := rowArg hP
  obtain ⟨nQ, cQ, zQ, RQ⟩ := rowArg hQ
  obtain ⟨y, ys, r0, ⟨y2, ys2, r1, rs, rfl⟩, rfl⟩ := ra
  have rs : ys2 = [] := rs
  subst rs
  obtain ⟨g2, d2, n2⟩ := rows_ok g [aP, aQ] [rwK nP .u8 px, rwK nQ .u8 qx] (Nat.le_of_ble_eq_true rfl) (by
    intro j k' ks' hj
    match j, hj with
    | 0, hj => obtain ⟨m, o, full, rfl, q⟩ := RP.row k' ks' (Option.some.inj hj); exact ⟨m, o, full, rfl, q⟩
    | 1, hj => obtain ⟨m, o, full, rfl, q⟩ := RQ.row k' ks' (Option.some.inj hj); exact ⟨m, o, full, rfl, q⟩
    | j + 2, hj => simp at hj)
  exact read_calls mo po Try.func17 (code := cdSm) (by kernel_rfl) (by kernel_rfl) (tgSm nP nQ X0 Y0 X1 Y1 A B C D lP cP zP lQ cQ zQ px qx (fun q => (RP.nl q).1) (fun q => (RQ.nl q).1) hA) (E := E.rows [aP, aQ]) g2 d2 n2
    ⟨y, _, im_rel (fun z q => RP.rel E _ 0 z rfl q) r0, ⟨y2, [], im_rel (fun z q => RQ.rel E _ 1 z rfl q) r1, rfl, rfl⟩, rfl⟩
end Go.Proofs.Ytadejpmecljjpaa
namespace Go.Proofs.Ytadejpmecljjpaa
open Go Go.Eng
def bzZ : O := .cells [.int .i64 0, .int .i64 0, .int .i64 0, .int .i64 0, .slc none 0 0 0]
section
variable (nS : Bool) (X0 Y0 X1 Y1 : Int) (lP cP : Nat) (px : List Int) (l cp z : Nat) (ss : List Int) (G0 G1 G2 G3 w : Int) (M : Nat) (gx : List Int)
end
structure SmR (X0 Y0 X1 Y1 : Int) : Prop where
  a : -500 ≤ X0
  b : -500 ≤ Y0
  c : X1 ≤ 500
  d : Y1 ≤ 500
  x : X0 < X1
  y : Y0 < Y1
section
variable {X0 Y0 X1 Y1 : Int} {px g0 : List Int} (hR : SmR X0 Y0 X1 Y1)
include hR
end
end Go.Proofs.Ytadejpmecljjpaa
namespace Go.Proofs.Ytadejpmecljjpaa
open Go Go.Eng
section
variable (nS : Bool) (X0 Y0 X1 Y1 : Int) (lP cP : Nat) (px : List Int) (l cp z : Nat) (ss : List Int)
end
end Go.Proofs.Ytadejpmecljjpaa
namespace Go.Proofs.Ytadejpmecljjpaa
open Go Go.Eng
noncomputable abbrev cdOp : Code := bodyOf Try.f22
noncomputable abbrev lpOp : Code := seqL (tailN 2 cdOp)
noncomputable abbrev loOp : Code := inner (seqR lpOp)
noncomputable abbrev enOp : Code := seqR (tailN 2 cdOp)
section
variable (X0 Y0 X1 Y1 : Int) (lP cP z N : Nat) (px qx : List Int)
def lsOp : List (Nat × O) := [(0, .ints .u8 px), (1, .cells (iV5 X0 Y0 X1 Y1 (.slc (some (0, 0)) lP cP 4)).cells), (2, bzZ), (3, .own .u8 qx)]
def frOp : List (Nat × V) := [(1, .ptr (some (1, 0))), (2, .ptr (some (2, 0))), (3, .slc (some (3, 0)) N N 4)]
def sOp0 : St := stG (frOp N) (hL (lsOp X0 Y0 X1 Y1 lP cP px qx)) 4
def sOp (i : Nat) : St := stG (frOp N ++ [(4, .int .i64 (Int.ofNat i))]) (hL (lsOp X0 Y0 X1 Y1 lP cP px qx)) 4
theorem op_1 : RunIs Try.prog csH [] 1000 1 Try.f22 [1, 2, 3] (headN 2 cdOp) (startSt [iV5 X0 Y0 X1 Y1 (slK false 0 lP cP z 4)] (rH [rwK false .u8 px]) 1) []
    [([], [0 < lP, 0 + lP * 4 ≤ px.length, 0 < lP, roomy (0 + lP) 4 4 = true], .to .normal (sOp0 X0 Y0 X1 Y1 lP cP (0 + lP) px ([] ++ (px.drop 0).take (lP * 4))))] := by
  unfold RunIs; kernel_rfl
theorem op_2 : RunIs Try.prog csH [] 1000 1 Try.f22 [1, 2, 3, 4] (seqL lpOp) (sOp0 X0 Y0 X1 Y1 lP cP N px qx) [] [([], [], .to .normal (sOp X0 Y0 X1 Y1 lP cP N px qx 0))] := by
  unfold RunIs; kernel_rfl
theorem op_3 (i : Nat) : RunIs Try.prog csH [(12, .split), (4, .give (.int .i64 (Int.ofNat (i + 1))))] 1000 1 Try.f22 [1, 2, 3, 4] (inner loOp) (sOp X0 Y0 X1 Y1 lP cP N px qx i) []
    [([(decide (Int.ofNat i < (N : Int)), true)], [0 ≤ Int.ofNat i ∧ Int.ofNat i < (N : Int), 0 + (Int.ofNat i).toNat * 4 + 3 + 1 ≤ qx.length, upP (Int.ofNat i) (Int.ofNat (i + 1))], .to .normal (sOp X0 Y0 X1 Y1 lP cP N px (putI qx (0 + i * 4 + 3) [255]) (i + 1))),
     ([(decide (Int.ofNat i < (N : Int)), false)], [], .to (.exit 0) (sOp X0 Y0 X1 Y1 lP cP N px qx i))] := by
  unfold RunIs; kernel_rfl
theorem op_4 (i : Nat) : RunIs Try.prog csH [] 1000 1 Try.f22 [] enOp (sOp X0 Y0 X1 Y1 lP cP N px qx i) []
    [([], [], .ret (.agg [.int .i64 X0, .int .i64 Y0, .int .i64 X1, .int .i64 Y1, .slc (some (1, 0)) N N 4]) (hL (rwL false 0 .u8 px ++ [(1, .own .u8 qx)])) 2)] := by
  unfold RunIs; kernel_rfl
end
def orow (px : List Int) : Nat → List Int
  | 0 => px
  | m + 1 => putI (orow px m) (0 + m * 4 + 3) [255]
theorem putI_get {px : List Int} {o : Nat} {x : Int} (h : o + 1 ≤ px.length) (t : Nat) : (putI px o [x]).getD t 0 = if t = o then x else px.getD t 0 := by
  unfold putI
  have hl : [x].length = 1 := rfl
  rw [hl]
  have e1 : (px.take o).length = o := by rw [List.length_take]; omega
  rw [List.getD_eq_getElem?_getD, List.getElem?_append, e1]
  by_cases h1 : t < o
  · rw [if_pos h1, if_neg (by omega), List.getElem?_take, if_pos h1, List.getD_eq_getElem?_getD]
  · rw [if_neg h1, List.getElem?_append, hl]
    by_cases h2 : t = o
    · subst h2
      rw [if_pos (by omega), if_pos rfl, Nat.sub_self]; rfl
    · rw [if_neg (by omega), if_neg h2, List.getElem?_drop, List.getD_eq_getElem?_getD]
      have : o + 1 + (t - o - 1) = t := by omega
      rw [this]
theorem orow_len (px : List Int) (N : Nat) (h : N * 4 ≤ px.length) : ∀ m, m ≤ N → (orow px m).length = px.length
  | 0, _ => rfl
  | m + 1, hm => by
    have ih := orow_len px N h m (by omega)
    show (putI (orow px m) (0 + m * 4 + 3) [255]).length = _
    rw [putI_len (by rw [ih]; show 0 + m * 4 + 3 + 1 ≤ _; omega), ih]
theorem orow_get (px : List Int) (N : Nat) (h : N * 4 ≤ px.length) : ∀ m, m ≤ N → ∀ i j, j < 4 → (orow px m).getD (i * 4 + j) 0 = if j = 3 ∧ i < m then 255 else px.getD (i * 4 + j) 0
  | 0, _, i, j, _ => by rw [if_neg (by omega)]; rfl
  | m + 1, hm, i, j, hj => by
    show (putI (orow px m) (0 + m * 4 + 3) [255]).getD (i * 4 + j) 0 = _
    rw [putI_get (by rw [orow_len px N h m (by omega)]; omega), orow_get px N h m (by omega) i j hj]
    by_cases q : i * 4 + j = 0 + m * 4 + 3
    · rw [if_pos q, if_pos (by omega)]
    · rw [if_neg q]
      by_cases q2 : j = 3 ∧ i < m
      · rw [if_pos q2, if_pos (by omega)]
      · rw [if_neg q2, if_neg (by omega)]
theorem orow_pix {px : List Int} {N : Nat} (h : N * 4 ≤ px.length) {i : Nat} (hi : i < N) : pixQ (orow px N) (Int.ofNat i) = ((pixQ px (Int.ofNat i)).1, (pixQ px (Int.ofNat i)).2.1, (pixQ px (Int.ofNat i)).2.2.1, 255) := by
  have e0 : (Int.ofNat i).toNat = i := rfl
  unfold pixQ pq
  simp only [e0, Nat.zero_add]
  rw [orow_get px N h N (Nat.le_refl _) i 0 (by omega), orow_get px N h N (Nat.le_refl _) i 1 (by omega), orow_get px N h N (Nat.le_refl _) i 2 (by omega), orow_get px N h N (Nat.le_refl _) i 3 (by omega)]
  rw [if_neg (by omega), if_neg (by omega), if_neg (by omega), if_pos ⟨rfl, hi⟩]
def opOk (lP : Nat) (px : List Int) : List Prop := [0 < lP, lP * 4 ≤ px.length, lP ≤ 900000]
section
variable (X0 Y0 X1 Y1 : Int) (lP cP z : Nat) (px : List Int)
theorem tgOp (hA : ∀ p ∈ opOk lP px, p) : TG Try.prog 1 Try.f22.ntmps cdOp (startSt [iV5 X0 Y0 X1 Y1 (slK false 0 lP cP z 4)] (rH [rwK false .u8 px]) 1)
    (RetG Try.prog 1 Try.f22 fun u h n => u = .agg [.int .i64 X0, .int .i64 Y0, .int .i64 X1, .int .i64 Y1, .slc (some (1, 0)) lP lP 4] ∧ h = hL (rwL false 0 .u8 px ++ [(1, .own .u8 (orow (px.take (lP * 4)) lP))]) ∧ n = 2) := by
  have h1 : 0 < lP := hA _ (by simp [opOk])
  have h2 : lP * 4 ≤ px.length := hA _ (by simp [opOk])
  have h3 : lP ≤ 900000 := hA _ (by simp [opOk])
  have hr := op_1 X0 Y0 X1 Y1 lP cP z px
  rw [Nat.zero_add lP, List.drop_zero, List.nil_append] at hr
  refine TG_isN1 2 XH mo (by kernel_rfl) hr (fun p hp => ?_) ?_
  · simp only [List.mem_cons, List.not_mem_nil, or_false] at hp
    rcases hp with rfl | rfl | rfl | rfl
    · exact h1
    · omega
    · exact h1
    · unfold roomy; rw [decide_eq_true_iff]; omega
  have hl : (px.take (lP * 4)).length = lP * 4 := by rw [List.length_take]; omega
  generalize px.take (lP * 4) = qx at hl ⊢
  have hlen := orow_len qx lP (by omega)
  refine TG_seq' (by kernel_rfl) ?_
  refine TG_isSeq XH mo anyR (by kernel_rfl) (by kernel_rfl) (op_2 X0 Y0 X1 Y1 lP cP lP px qx) fun g hg _ => ?_
  rw [List.mem_singleton] at hg; subst hg
  refine ⟨by simp, fun s' hs' => ?_⟩
  refine TG_block (i := 0) (by kernel_rfl) (TG_mono (Q1 := fun y s2 => y = .exit 0 ∧ ∃ L, normG 1 L s2 = some (sOp X0 Y0 X1 Y1 lP cP lP px (orow qx lP) lP)) ?_ ?_)
  · refine TG_loop_inv (fun k' s => ∃ i, k' = lP - i ∧ i ≤ lP ∧ ∃ L, normG 1 L s = some (sOp X0 Y0 X1 Y1 lP cP lP px (orow qx i) i)) (by kernel_rfl) ?_ lP ⟨0, rfl, Nat.zero_le _, _, hs'⟩
    rintro k' s ⟨i, hk', hi, L, hs⟩
    refine TG_norm hs ?_
    refine TG_is XH mo anyR (by kernel_rfl) (op_3 X0 Y0 X1 Y1 lP cP lP px (orow qx i) i) fun g hg hc => ?_
    simp only [List.mem_cons, List.not_mem_nil, or_false] at hg
    have hI : Int.ofNat i = (i : Int) := rfl
    have e0 : (Int.ofNat i).toNat = i := rfl
    rcases hg with rfl | rfl
    · have hlt : i < lP := by
        have := of_decide_eq_true (hc _ (List.mem_singleton.2 rfl))
        rw [hI] at this; omega
      refine ⟨fun p hp => ?_, fun s' hs' => ⟨lP - (i + 1), by omega, i + 1, rfl, by omega, _, hs'⟩⟩
      simp only [List.mem_cons, List.not_mem_nil, or_false] at hp
      rcases hp with rfl | rfl | rfl
      · rw [hI]; omega
      · rw [hlen i (by omega), e0]; omega
      · exact upN (by omega)
    · have hge : i = lP := by
        have := of_decide_eq_false (hc _ (List.mem_singleton.2 rfl))
        rw [hI] at this; omega
      refine ⟨by simp, fun s' hs' => ⟨rfl, [1, 2, 3, 4], ?_⟩⟩
      rw [hge] at hs'; exact hs'
  · rintro y s2 ⟨rfl, L, hs2⟩
    rw [outOf_exit]
    simp only [andThen]
    refine TG_norm hs2 ?_
    refine TG_ret XH mo _ (by kernel_rfl) (op_4 X0 Y0 X1 Y1 lP cP lP px (orow qx lP) lP) fun g hg _ => ?_
    rw [List.mem_singleton] at hg; subst hg
    exact ⟨by simp, _, _, _, rfl, rfl, rfl, rfl⟩
end
def specOp (args : List V) (h : Tr O) (n : Nat) : Option (List Prop × V × Tr O × Nat) := match args with
  | [.agg [.int .i64 X0, .int .i64 Y0, .int .i64 X1, .int .i64 Y1, P]] => match rowK .u8 4 (softT h) P with
    | some (some _, lP, px) => match emb [] 1 (.agg [.int .i64 X0, .int .i64 Y0, .int .i64 X1, .int .i64 Y1, .slc (some (1, 0)) lP lP 4], hL [(1, .own .u8 (orow (px.take (lP * 4)) lP))], 2) h n with
      | some r => some (opOk lP px, r)
      | none => none
    | _ => none
  | _ => none
theorem one_Op : OneW Try.prog 22 specOp := by
  refine ⟨Nat.le_of_ble_eq_true (by kernel_rfl), fun args h n A v h' n' e0 hA E w args' ra g hd hc => ?_⟩
  unfold specOp at e0
  split at e0
  case h_2 => cases e0
  rename_i X0 Y0 X1 Y1 P
  split at e0
  case h_2 => cases e0
  rename_i aP lP px hP
  split at e0
  case h_2 => cases e0
  rename_i r he
  simp only [Option.some.injEq, Prod.mk.injEq] at e0
  obtain ⟨rfl, rfl⟩ := e0
  obtain ⟨nP, cP, zP, RP⟩ := rowArg hP
  obtain rfl : nP = false := RP.nn
  obtain ⟨y, ys, r0, rs, rfl⟩ := ra
  have rs : ys = [] := rs
  subst rs
  obtain ⟨g2, d2, n2⟩ := rows_ok (soft_good g) [some aP] [rwK false .u8 px] (Nat.le_of_ble_eq_true rfl) (by
    intro j k' ks' hj
    match j, hj with
    | 0, hj => obtain ⟨m, o, full, e, q⟩ := RP.row k' ks' (Option.some.inj hj); exact ⟨m, o, full, by rw [← e]; rfl, q⟩
    | j + 1, hj => simp at hj)
  have ht := tgOp X0 Y0 X1 Y1 lP cP zP px hA
  have er : emb [] 1 (.agg [.int .i64 X0, .int .i64 Y0, .int .i64 X1, .int .i64 Y1, .slc (some (1, 0)) lP lP 4], hL (rwL false 0 .u8 px ++ [(1, .own .u8 (orow (px.take (lP * 4)) lP))]), 2) h n = some (v, h', n') := by
    rw [emb_rows 1 n 2 (rwL false 0 .u8 px) _ _ h (by kernel_rfl) (by rfl) (by rfl)]
    exact he
  exact (calls_of_TG1 mo po Try.func22 (by kernel_rfl) (by kernel_rfl) _ _ _ ht (E := E.rows [some aP]) ⟨y, [], im_rel (fun t q => RP.rel E _ 0 t rfl q) r0, rfl, rfl⟩ g2 d2).mono fun en w' c' => emb_ok (E1 := E.rows [some aP]) g hd rfl (fun m m' _ q => by cases q) n2 er c'
end Go.Proofs.Ytadejpmecljjpaa
