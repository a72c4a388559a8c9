/- Filter laws anew, part O: FilterValid, the whole function. No conditions. -/
import Derived.Test.YtadejpmecljjpaaFlN0
import Derived.Test.YtadejpmecljjpaaFlN1
import Derived.Test.YtadejpmecljjpaaFlN2
import Derived.Test.YtadejpmecljjpaaEngFive
import Derived.Test.YtadejpmecljjpaaRows
import Derived.WalkKit
import Derived.ProofKit
import Derived.OpenShut
import Derived.Below
import Derived.ChangeSame
namespace Go.Proofs.Ytadejpmecljjpaa
open Go Go.Eng

theorem f4_ok {a : Nat} {ax : List Int} {b : Nat} {bx : List Int} (h1 : a ≤ ax.length) (h2 : a ≤ 1000) (h3 : b ≤ bx.length) (h4 : b ≤ 1000) : ∀ p ∈ f4 a ax b bx, p := four_ok h1 h2 h3 h4
theorem neB_self (b : Bool) : neB b b := by unfold neB isV; simp
theorem neS_self (s : List UInt8) : neS s s := by unfold neS isV; rw [beqB_eq]; simp
theorem blk_ok {i k r d v : Int} {a : Nat} {ax : List Int} {b : Nat} {bx : List Int} (hi : ixP i) (h : ∀ p ∈ f4 a ax b bx, p) : ∀ p ∈ blk i k r d v a ax b bx, p := by
  intro p hp
  simp only [blk, List.mem_cons, List.mem_append, List.not_mem_nil, or_false] at hp
  rcases hp with rfl | hp | rfl | hp | rfl | rfl | hp | rfl | hp | rfl | rfl | hp | rfl | rfl | hp | rfl | hp | rfl | rfl
  all_goals first | exact hi | exact h _ hp | exact neB_self _ | exact neS_self _ | rfl

theorem vD_all (nK nC nS : Bool) (k r d v : Int) (cK cC : Nat) (ks cs ss : List Int) (mK mC : Nat) (cl : Cl) (gk gr gd gw : Int) (l : Nat) (gs : List Int) (hc : Hc) (hk hr hd hw : Int) (hl : Nat) (hs : List Int) : vDp nK nC nS k r d v cK cC ks cs ss mK mC cl gk gr gd gw l gs hc hk hr hd hw hl hs := by
  cases cl <;> cases hc <;> cases nK
  · exact vD_o_same_false ..
  · exact vD_o_same_true ..
  · exact vD_o_newK_false ..
  · exact vD_o_newK_true ..
  · exact vD_o_newC_false ..
  · exact vD_o_newC_true ..
  · exact vD_K_same_false ..
  · exact vD_K_same_true ..
  · exact vD_K_newK_false ..
  · exact vD_K_newK_true ..
  · exact vD_K_newC_false ..
  · exact vD_K_newC_true ..
  · exact vD_C_same_false ..
  · exact vD_C_same_true ..
  · exact vD_C_newK_false ..
  · exact vD_C_newK_true ..
  · exact vD_C_newC_false ..
  · exact vD_C_newC_true ..

section
variable (nK nC nS : Bool) (k r d v : Int) (cK cC : Nat) (ks cs ss : List Int) (q0 q1 : Int) (mK mC : Nat) (cl : Cl) (gk gr gd gw : Int) (l : Nat) (gs : List Int)
abbrev RT : Exit → St → Prop := RetG Try.prog 3 Try.f11 fun a _ _ => a = .bool true
theorem glen {cl : Cl} {l : Nat} {gs : List Int} (hg : gs.length = l) (hl : l ≤ 300) : ∀ p ∈ f4 (glK cl l) (grK cl gs) (glC cl l) (grC cl gs), p := by
  refine f4_ok ?_ ?_ ?_ ?_ <;> cases cl <;> simp [glK, glC, grK, grC, hg] <;> omega
theorem hlen {cl : Cl} {l : Nat} {gs : List Int} {hc : Hc} {hl : Nat} {hs : List Int} (hg : gs.length = l) (hl1 : l ≤ 300) (h1 : hs.length = hl) (h2 : hl ≤ 400) : ∀ p ∈ f4 (hlK cl l hc hl) (hrK cl gs hc hs) (hlC cl l hc hl) (hrC cl gs hc hs), p := by
  refine f4_ok ?_ ?_ ?_ ?_ <;> cases cl <;> cases hc <;> simp [hlK, hlC, hrK, hrC, glK, glC, grK, grC, hg, h1] <;> omega

theorem phaseD (hF : ∀ p ∈ f4 (ln nK mK) (rw' nK ks) (ln nC mC) (rw' nC cs), p) (hg : gs.length = l) (hl1 : l ≤ 300) (hv : validB gk gr gd gw (glK cl l) (grK cl gs) (glC cl l) (grC cl gs) = true) (hc : Hc) (hk hr hd hw : Int) (hl : Nat) (hs : List Int) (h1 : hs.length = hl) (h2 : hl ≤ 400) :
    TG Try.prog 3 Try.f11.ntmps (tailN 8 cdFV) (sVD nK nC nS k r d v cK cC ks cs ss mK mC cl gk gr gd gw l gs hc hk hr hd hw hl (.own .i64 hs)) RT := by
  refine TG_ret X5 mo _ (by kernel_rfl) (vD_all nK nC nS k r d v cK cC ks cs ss mK mC cl gk gr gd gw l gs hc hk hr hd hw hl hs) fun g hgm _ => ?_
  rw [List.mem_singleton] at hgm; subst hgm
  refine ⟨fun p hp => ?_, _, _, _, rfl, by rw [hv]⟩
  rcases List.mem_append.1 hp with hp | hp
  · rcases List.mem_append.1 hp with hp | hp
    · rcases List.mem_append.1 hp with hp | hp
      · exact blk_ok ⟨by omega, by omega⟩ hF p hp
      · exact blk_ok ⟨by omega, by omega⟩ (glen hg hl1) p hp
    · exact blk_ok ⟨by omega, by omega⟩ (hlen hg hl1 h1 h2) p hp
  · exact glen hg hl1 p hp

theorem mask7 (x : Int) : mask 7 x = 0 ∨ mask 7 x = 1 ∨ mask 7 x = 2 ∨ mask 7 x = 3 ∨ mask 7 x = 4 ∨ mask 7 x = 5 ∨ mask 7 x = 6 ∨ mask 7 x = 7 := by
  have h := mask_le (k := 7) (by omega) x
  have e : mask ((7 : Nat) : Int) x = mask 7 x := rfl
  rw [e] at h
  omega
theorem nrA_ok {has : Bool} {l : Nat} {gs : List Int} (hg : gs.length = l) (hl : l ≤ 300) (hp : has = true → 0 < l) : ∀ a ∈ nrA has l gs, a := by
  cases has with
  | false => simp [nrA]
  | true =>
    have h0 := hp rfl
    have hr1 : roomy (0 + l) 1 8 = true := room (by omega)
    have hr2 : roomy (0 + l + 1) 1 8 = true := room (by omega)
    simp only [nrA, List.mem_cons, List.not_mem_nil, or_false]
    rintro a (rfl | rfl | rfl | rfl | rfl | rfl | rfl | rfl)
    · exact h0
    · omega
    · exact h0
    · exact hr1
    · omega
    · simp; omega
    · omega
    · exact hr2
theorem nrRow_len {has : Bool} {l : Nat} {gs : List Int} {x : Int} (hg : gs.length = l) : (nrRow has l gs x).length = nrLen has l := by
  cases has with
  | false => rfl
  | true => simp [nrRow, nrLen, hg]
theorem nrLen_le {has : Bool} {l : Nat} (hl : l ≤ 300) : nrLen has l ≤ 400 := by cases has <;> simp only [nrLen] <;> omega

theorem phaseC (hF : ∀ p ∈ f4 (ln nK mK) (rw' nK ks) (ln nC mC) (rw' nC cs), p) (hg : gs.length = l) (hl1 : l ≤ 300) (hpos : isK cl = true ∨ isC cl = true → 0 < l) (hv : validB gk gr gd gw (glK cl l) (grK cl gs) (glC cl l) (grC cl gs) = true) :
    TG Try.prog 3 Try.f11.ntmps (tailN 6 cdFV) (sVB nK nC nS k r d v cK cC ks cs ss q0 q1 mK mC cl gk gr gd gw l gs) RT := by
  have pd := phaseD nK nC nS k r d v cK cC ks cs ss mK mC cl gk gr gd gw l gs hF hg hl1 hv
  have same : ∀ (j hk hr hd hw : Int), mask 7 q0 = j → rVC nK nC nS k r d v cK cC ks cs ss q0 q1 mK mC cl gk gr gd gw l gs j [] [([], [caseP q0 j], .to .normal (sVDs nK nC nS k r d v cK cC ks cs ss mK mC cl gk gr gd gw l gs hk hr hd hw))] → TG Try.prog 3 Try.f11.ntmps (tailN 6 cdFV) (sVB nK nC nS k r d v cK cC ks cs ss q0 q1 mK mC cl gk gr gd gw l gs) RT := by
    intro j hk hr hd hw hj hrun
    refine TG_isN1 2 X5 mo (by kernel_rfl) hrun ?_ ?_
    · intro a ha; rw [List.mem_singleton] at ha; subst ha; unfold caseP; rw [hj]
    · exact pd .same hk hr hd hw 0 [] rfl (by omega)
  rcases mask7 q0 with h | h | h | h | h | h | h | h
  · exact same 0 _ _ _ _ h (vC0 nK nC nS k r d v cK cC ks cs ss q0 q1 mK mC cl gk gr gd gw l gs)
  · exact same 1 _ _ _ _ h (vC1 nK nC nS k r d v cK cC ks cs ss q0 q1 mK mC cl gk gr gd gw l gs)
  · exact same 2 _ _ _ _ h (vC2 nK nC nS k r d v cK cC ks cs ss q0 q1 mK mC cl gk gr gd gw l gs)
  · exact same 3 _ _ _ _ h (vC3 nK nC nS k r d v cK cC ks cs ss q0 q1 mK mC cl gk gr gd gw l gs)
  · refine TG_isN1 2 X5 mo (by kernel_rfl) (vC4 nK nC nS k r d v cK cC ks cs ss q0 q1 mK mC cl gk gr gd gw l gs) ?_ ?_
    · intro a ha
      rcases List.mem_cons.1 ha with rfl | ha
      · unfold caseP; rw [h]
      · exact nrA_ok hg hl1 (fun q => hpos (.inl q)) a ha
    · have hlast := pd .newK gk gr gd gw (nrLen (isK cl) l) (nrRow (isK cl) l gs q1) (nrRow_len hg) (nrLen_le hl1)
      cases cl with
      | K => exact hlast
      | o => exact TG_own [(gN .o 4 + 1, .i64)] (by cases nK <;> cases nC <;> cases nS <;> kernel_rfl) hlast
      | C => exact TG_own [(gN .C 4 + 1, .i64)] (by cases nK <;> cases nC <;> cases nS <;> kernel_rfl) hlast
  · refine TG_isN1 2 X5 mo (by kernel_rfl) (vC5 nK nC nS k r d v cK cC ks cs ss q0 q1 mK mC cl gk gr gd gw l gs) ?_ ?_
    · intro a ha
      rcases List.mem_cons.1 ha with rfl | ha
      · unfold caseP; rw [h]
      · exact nrA_ok hg hl1 (fun q => hpos (.inr q)) a ha
    · have hlast := pd .newC gk gr gd gw (nrLen (isC cl) l) (nrRow (isC cl) l gs q1) (nrRow_len hg) (nrLen_le hl1)
      cases cl with
      | C => exact hlast
      | o => exact TG_own [(gN .o 4 + 1, .i64)] (by cases nK <;> cases nC <;> cases nS <;> kernel_rfl) hlast
      | K => exact TG_own [(gN .K 4 + 1, .i64)] (by cases nK <;> cases nC <;> cases nS <;> kernel_rfl) hlast
  · exact same 6 _ _ _ _ h (vC6 nK nC nS k r d v cK cC ks cs ss q0 q1 mK mC cl gk gr gd gw l gs)
  · exact same 7 _ _ _ _ h (vC7 nK nC nS k r d v cK cC ks cs ss q0 q1 mK mC cl gk gr gd gw l gs)
end

theorem shRow_len {ss : List Int} {n : Nat} {sh : Sh} : (shRow (madeX ss n) ss n sh).length = shL n sh := by
  cases sh <;> simp [shRow, shL, kern, curveL_len]
theorem shL_le {ss : List Int} {n : Nat} {sh : Sh} (h : madeOk ss n sh) : shL n sh ≤ 300 := by
  obtain ⟨h1, _, _⟩ := h
  cases sh <;> simp only [shL] <;> first | omega | (unfold cvk; split <;> omega)
theorem shL_pos {n : Nat} {sh : Sh} (h : isK (clOf sh) = true ∨ isC (clOf sh) = true) : 0 < shL n sh := by
  cases sh <;> simp [clOf, isK, isC] at h <;> simp only [shL] <;> first | omega | (unfold cvk; split <;> omega)
theorem min_ok {lim : Nat} {l : Nat} : minP (Int.ofNat lim) l (min lim l) := by
  unfold minP
  by_cases h : (Int.ofNat lim) < Int.ofNat l
  · rw [if_pos h]
    have : lim < l := Int.ofNat_lt.1 h
    rw [Nat.min_eq_left (Nat.le_of_lt this)]
  · rw [if_neg h]
    have : ¬ lim < l := fun q => h (Int.ofNat_lt.2 q)
    rw [Nat.min_eq_right (Nat.le_of_not_lt this)]
theorem cap_ok {m c : Nat} (h : m ≤ c) : capP m c := ⟨Int.natCast_nonneg m, by show (m : Int) ≤ (c : Int); omega⟩

theorem tgFV (nK nC nS : Bool) (k r d v : Int) (lK cK lC cC n cS : Nat) (ks cs ss : List Int) (q0 q1 : Int) (hK : nK = false → lK ≤ cK ∧ lK ≤ ks.length) (hC : nC = false → lC ≤ cC ∧ lC ≤ cs.length) (hS : nS = false → n ≤ cS ∧ n ≤ ss.length) :
    TG Try.prog 3 Try.f11.ntmps cdFV (stFV nK nC nS k r d v lK cK lC cC n cS ks cs ss q0 q1) RT := by
  have lnmin : ∀ (b : Bool) (lim l : Nat), ln b (min lim l) = min lim (ln b l) := by intro b lim l; cases b <;> simp
  refine TG_isN1 4 X5 mo (by kernel_rfl) (vA nK nC nS k r d v lK cK lC cC n cS ks cs ss q0 q1 (min 60 lK) (min 300 lC)) ?_ ?_
  · simp only [List.mem_cons, List.not_mem_nil, or_false]
    rintro a (rfl | rfl | rfl | rfl)
    · rw [lnmin]; exact min_ok (lim := 60)
    · refine cap_ok ?_
      cases nK with
      | true => exact Nat.le_refl _
      | false => have := hK rfl; simp only [ln]; omega
    · rw [lnmin]; exact min_ok (lim := 300)
    · refine cap_ok ?_
      cases nC with
      | true => exact Nat.le_refl _
      | false => have := hC rfl; simp only [ln]; omega
  have hF : ∀ p ∈ f4 (ln nK (min 60 lK)) (rw' nK ks) (ln nC (min 300 lC)) (rw' nC cs), p := by
    refine f4_ok ?_ ?_ ?_ ?_
    · cases nK with
      | true => exact Nat.zero_le _
      | false => have := hK rfl; simp only [ln, rw']; omega
    · rw [lnmin]; omega
    · cases nC with
      | true => exact Nat.zero_le _
      | false => have := hC rfl; simp only [ln, rw']; omega
    · rw [lnmin]; omega
  cases nS with
  | false =>
    have hs := hS rfl
    obtain ⟨sh, hsh⟩ := sh_all ss (min 60 n)
    have hok : madeOk ss (min 60 n) sh := ⟨by omega, by omega, hsh⟩
    refine TG_isN1 2 (X6 sh) mo (by kernel_rfl) (vB nK nC k r d v cK cC n cS ks cs ss q0 q1 (min 60 lK) (min 300 lC) (min 60 n) sh) ?_ ?_
    · simp only [List.mem_cons, List.not_mem_nil, or_false]
      rintro a (rfl | rfl | rfl)
      · exact min_ok (lim := 60)
      · exact cap_ok (by omega)
      · exact hok
    · exact phaseC nK nC false k r d v cK cC ks cs ss q0 q1 (min 60 lK) (min 300 lC) (clOf sh) _ _ _ _ _ _ hF shRow_len (shL_le hok) shL_pos (made_valid hok)
  | true =>
    have hok : madeOk [] 0 .conv0 := ⟨by omega, by simp, by refine ⟨?_, ?_⟩ <;> decide +kernel⟩
    refine TG_isN1 2 (X6 .conv0) mo (by kernel_rfl) (vB0 nK nC k r d v cK cC n cS ks cs ss q0 q1 (min 60 lK) (min 300 lC)) ?_ ?_
    · simp only [List.mem_cons, List.not_mem_nil, or_false]
      rintro a (rfl | rfl)
      · exact min_ok (lim := 60) (l := 0)
      · exact cap_ok (Nat.le_refl _)
    · exact phaseC nK nC true k r d v cK cC ks cs ss q0 q1 (min 60 lK) (min 300 lC) .K _ _ _ _ _ _ hF shRow_len (shL_le hok) (fun _ => by decide) (made_valid hok)
end Go.Proofs.Ytadejpmecljjpaa

/- Filter laws anew, part P: what comes in. No conditions. -/
namespace Go.Proofs.Ytadejpmecljjpaa
open Go Go.ChangeShapes Go.WideShapes Go.ChangeAt Go.RowKit Go.Eng
set_option linter.unusedVariables false
set_option maxRecDepth 100000

theorem own : ownKnob Try.prog.godebug = none := by kernel_rfl
theorem laid : laidOutB Try.prog = true := by kernel_rfl
theorem mapd : mapsRowed Try.prog = true := by kernel_rfl
theorem full : ((List.range Try.prog.types.size).all fun t => match Try.prog.underlying t with | some (.slice e) => decide (0 < Try.prog.cellsOf e) | _ => true) = true := by kernel_rfl
theorem cells3 : Try.prog.cellsOf 3 = 1 := by kernel_rfl
theorem cells22 : Try.prog.cellsOf 22 = 1 := by kernel_rfl
theorem cells26 : Try.prog.cellsOf 26 = 1 := by kernel_rfl

section
variable {H : Type} {enc : TypeId × Value → H} {W : World} {base : Nat}

/-- a slice of ints, as it comes in -/
theorem row_in {t : TypeId} (ht : Try.prog.underlying t = some (.slice 3)) {fuel : Nat} {v : Value} {x : DataW H × List MemPlace} (hv : Cell.okWide Try.prog W .any base t v) (h : DataW.trod enc Try.prog W 0 (fun _ => true) true fuel t [v] = some x) :
    ∃ (o : Option (Nat × Nat × List Int)) (len : Nat), inOk W o ∧ len ≤ ((inK o).getD []).length ∧ v = slcV o len := by
  rcases slice_in ht Try.underlying3 cells3 hv h with rfl | ⟨b, s, len, cap, ks, rfl, hl, hk, hr⟩
  · exact ⟨none, 0, (fun b s ks e => nomatch e), Nat.le_refl _, rfl⟩
  · refine ⟨some (b, s, ks), len, fun b' s' ks' e => ?_, (by simp [inK]; omega), (by rw [← hk]; rfl)⟩
    simp only [Option.some.injEq, Prod.mk.injEq] at e
    obtain ⟨rfl, rfl, rfl⟩ := e
    exact hr

theorem rect_in {v : Value} {d : DataW H} {p : List MemPlace} (hv : Value.okWide Try.prog W .any base 30 v) (h : DataW.Trod enc Try.prog W 0 (fun _ => true) true 30 v d p) :
    ∃ x0 y0 x1 y1, v = .agg #[.int .i64 x0, .int .i64 y0, .int .i64 x1, .int .i64 y1] := by
  obtain ⟨cs, rfl, hsz, n, hf⟩ := struct_in (us := [3, 3, 3, 3]) Try.underlying30 (by kernel_rfl) (by kernel_rfl) rfl (fieldsB_ok (by kernel_rfl)) hv h
  obtain ⟨v0, _, e0, _, t0⟩ := hf 0 _ rfl
  obtain ⟨v1, _, e1, _, t1⟩ := hf 1 _ rfl
  obtain ⟨v2, _, e2, _, t2⟩ := hf 2 _ rfl
  obtain ⟨v3, _, e3, _, t3⟩ := hf 3 _ rfl
  obtain ⟨x0, rfl⟩ := int_in Try.underlying3 t0
  obtain ⟨y0, rfl⟩ := int_in Try.underlying3 t1
  obtain ⟨x1, rfl⟩ := int_in Try.underlying3 t2
  obtain ⟨y1, rfl⟩ := int_in Try.underlying3 t3
  refine ⟨x0, y0, x1, y1, ?_⟩
  obtain ⟨l⟩ := cs
  match l, hsz with
  | [a, b, c, d], _ =>
    cases e0; cases e1; cases e2; cases e3
    rfl

theorem filter_in {v : Value} {d : DataW H} {p : List MemPlace} (hv : Value.okWide Try.prog W .any base 28 v) (h : DataW.Trod enc Try.prog W 0 (fun _ => true) true 28 v d p) :
    ∃ k r dv vl v2 v5, v = .agg #[.int .i64 k, .int .i64 r, v2, .int .i64 dv, .int .i64 vl, v5] ∧
      (∃ (o : Option (Nat × Nat × List Int)) (len : Nat), inOk W o ∧ len ≤ ((inK o).getD []).length ∧ v2 = slcV o len) ∧
      (∃ (o : Option (Nat × Nat × List Int)) (len : Nat), inOk W o ∧ len ≤ ((inK o).getD []).length ∧ v5 = slcV o len) := by
  obtain ⟨cs, rfl, hsz, n, hf⟩ := struct_in (us := [3, 3, 22, 3, 3, 26]) Try.underlying28 (by kernel_rfl) (by kernel_rfl) rfl (fieldsB_ok (by kernel_rfl)) hv h
  obtain ⟨v0, _, e0, _, t0⟩ := hf 0 _ rfl
  obtain ⟨v1, _, e1, _, t1⟩ := hf 1 _ rfl
  obtain ⟨v2, _, e2, o2, t2⟩ := hf 2 _ rfl
  obtain ⟨v3, _, e3, _, t3⟩ := hf 3 _ rfl
  obtain ⟨v4, _, e4, _, t4⟩ := hf 4 _ rfl
  obtain ⟨v5, _, e5, o5, t5⟩ := hf 5 _ rfl
  obtain ⟨x0, rfl⟩ := int_in Try.underlying3 t0
  obtain ⟨x1, rfl⟩ := int_in Try.underlying3 t1
  obtain ⟨x3, rfl⟩ := int_in Try.underlying3 t3
  obtain ⟨x4, rfl⟩ := int_in Try.underlying3 t4
  refine ⟨x0, x1, x3, x4, v2, v5, ?_, row_in Try.underlying22 o2 t2, row_in Try.underlying26 o5 t5⟩
  obtain ⟨l⟩ := cs
  match l, hsz with
  | [a, b, c, d, e, f], _ =>
    cases e0; cases e1; cases e2; cases e3; cases e4; cases e5
    rfl
end


def noneB (o : RowO) : Bool := o.isNone
def rowOf' (o : RowO) : List Int := (inK o).getD []
theorem opR_eq (o : RowO) : opR (noneB o) (rowOf' o) = (match o with | some (_, _, ks) => some (IntKind.i64, ks) | none => none) := by
  cases o with
  | none => rfl
  | some y => rfl
theorem slN_rel {E : Env} {w : World} {m len : Nat} {o : RowO} (hE : E.ι m = inH o) (hβ : E.β = cellsSize w) (h : inOk w o) (hl : len ≤ (rowOf' o).length) :
    vrel E (slN (noneB o) m len (rowOf' o).length) (slcV o len) := by
  cases o with
  | none => exact ⟨rfl, rfl, rfl⟩
  | some y =>
    obtain ⟨b, s, ks⟩ := y
    exact slc_rel hE hβ (h b s ks rfl) hl
theorem two_in {W : World} {H : Type} {enc : TypeId × Value → H} {base : Nat} {v : Value} {d : DataW H} {p : List MemPlace} (hv : Value.okWide Try.prog W .any base 46 v) (h : DataW.Trod enc Try.prog W 0 (fun _ => true) true 46 v d p) :
    ∃ a b, v = .agg #[.int .i64 a, .int .i64 b] := by
  obtain ⟨zs, hz, rfl⟩ := array_in Try.underlying46 Try.underlying3 (by kernel_rfl) (by kernel_rfl) hv h
  match zs, hz with
  | [a, b], _ => exact ⟨a, b, rfl⟩

/-! ### the close, by the guide's own lemma -/
section
variable {H : Type} {enc : TypeId × Value → H} {P : Program}
theorem post_of_below {f : Func} {s : ChangeSpec} {apart fresh handsOn again : Bool} {W W' : World} {args : Array Value} {v : Value} {ds gs : List (DataW H)} {before pa pv : List MemPlace}
    (hW : DataW.Whole enc P f.params.toList s.vars apart W args.toList ds gs before)
    (hres : ∀ (b : Nat) (sp : Nat → Bool) (hd : Bool), DataW.TrodAll enc P W' b sp hd f.resultTypes.toList (v.resultList f.resultTypes.size) (s.fn H (ds ++ gs)).results [])
    (hargs : ∀ sp : Nat → Bool, (∀ p ∈ before, sp p.block = true) → DataW.TrodAll enc P W' 0 sp true f.params.toList args.toList (s.fn H (ds ++ gs)).args pa)
    (hvars : ∀ sp : Nat → Bool, (∀ p ∈ before, sp p.block = true) → DataW.TrodVars enc P W' sp s.vars (s.fn H (ds ++ gs)).vars pv)
    (hps : before = pa ++ pv) (hb : Below W.heap.size W W')
    (hok : ∀ (j : Nat) (t : TypeId) (r : Value), f.resultTypes[j]? = some t → (v.resultList f.resultTypes.size)[j]? = some r → Value.okWide P W' .any 0 t r) :
    s.post enc P f apart fresh handsOn again W args v W' := by
  have hlt : ∀ p ∈ before, p.block < W.heap.size := fun p hp => hW.lt p hp
  have hold : ∀ p ∈ before, (fun b => decide (b < W.heap.size)) p.block = true := fun p hp => by simpa using hlt p hp
  refine ⟨ds, gs, before, [], pa, pv, hW, hres _ _ _, hargs _ hold, hvars _ hold, World.keptBut_mono (fun p hp => ⟨hp, ?_⟩) (hb.frame (· ∈ before)), fun _ => ?_⟩
  · rw [hps, List.mem_append] at hp
    exact Or.inr hp
  · obtain ⟨_, _, _, _, _, hz, hn⟩ := hW
    refine ⟨hok, _, _, ([] ++ pa) ++ pv, ⟨[] ++ pa, pv, trodAll_append (hargs _ (fun _ _ => rfl)) (hres _ _ _), hvars _ (fun _ _ => rfl), rfl, ?_, ?_⟩, ?_⟩
    · intro b off hp
      have hin : MemPlace.cell b off ∈ before := by rw [hps]; simpa using hp
      rw [hb.frozen (hlt _ hin)]
      exact hz b off hin
    · intro ha
      have := hn ha
      rw [hps] at this
      simpa using this
    · intro p hp _
      rw [hps]
      simpa using hp
end

end Go.Proofs.Ytadejpmecljjpaa
