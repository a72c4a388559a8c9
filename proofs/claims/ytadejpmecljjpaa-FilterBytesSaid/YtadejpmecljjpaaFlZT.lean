/- Filter laws anew, part ZT: what comes in, with its bounds. No conditions. -/
import Derived.Test.YtadejpmecljjpaaFlZR
import Derived.Test.YtadejpmecljjpaaFlByP
set_option linter.unusedVariables false
set_option linter.unusedSimpArgs false
set_option linter.unusedSectionVars false
namespace Go.Proofs.Ytadejpmecljjpaa
open Go Go.ChangeShapes Go.WideShapes Go.ChangeAt Go.RowKit Go.Eng
set_option maxRecDepth 100000
section
variable {H : Type} {enc : TypeId × Value → H} {W : World} {base : Nat}
theorem wf_i64 {n : Int} (hw : (Lit.int .i64 n).wf = true) : i64R n := by
  simp only [Lit.wf, Bool.and_eq_true, decide_eq_true_eq] at hw
  have e1 : IntKind.i64.min = -9223372036854775808 := rfl
  have e2 : IntKind.i64.max = 9223372036854775807 := rfl
  rw [e1, e2] at hw
  exact ⟨hw.1, by omega⟩
theorem int_in2 {t : TypeId} {n : Nat} {v : Value} {y : DataW H × List MemPlace} (ht : Try.prog.underlying t = some (.int .i64)) (h : DataW.trod enc Try.prog W 0 (fun _ => true) true n t [v] = some y) : ∃ i, v = .int .i64 i ∧ i64R i := by
  obtain ⟨i, h1, _, hw⟩ := DataW.trod_int ht h
  exact ⟨i, by simpa using h1, wf_i64 hw⟩
theorem row_in2 {t : TypeId} (ht : Try.prog.underlying t = some (.slice 3)) {fuel : Nat} {v : Value} {x : DataW H × List MemPlace} (hv : Cell.okWide Try.prog W .any base t v) (h : DataW.trod enc Try.prog W 0 (fun _ => true) true fuel t [v] = some x) :
    ∃ (o : Option (Nat × Nat × List Int)) (len : Nat), inOk W o ∧ len ≤ ((inK o).getD []).length ∧ v = slcV o len ∧ ∀ z ∈ (inK o).getD [], i64R z := by
  rcases slice_in ht Try.underlying3 cells3 hv h with rfl | ⟨b, s, len, cap, ks, rfl, hl, hk, hr⟩
  · exact ⟨none, 0, (fun b s ks e => nomatch e), Nat.le_refl _, rfl, fun z hz => by cases hz⟩
  · refine ⟨some (b, s, ks), len, fun b' s' ks' e => ?_, (by simp [inK]; omega), (by rw [← hk]; rfl), fun z hz => ?_⟩
    · simp only [Option.some.injEq, Prod.mk.injEq] at e
      obtain ⟨rfl, rfl, rfl⟩ := e
      exact hr
    · have hz : z ∈ ks := hz
      obtain ⟨c, el, fz, hb, _, hc⟩ := hr
      rcases open_ints ht Try.underlying3 cells3 h with ⟨h1, _⟩ | ⟨a, len', cap', zs, h1, _, hl', _, hzl, _, hcell, hwf⟩
      · simp at h1
      · simp only [List.cons.injEq, and_true, Value.slice.injEq, Option.some.injEq] at h1
        obtain ⟨ha, _, hcap⟩ := h1
        subst ha
        simp only [if_true] at hzl
        obtain ⟨i, hi, e⟩ := List.getElem_of_mem hz
        have e1 := hc i z (by rw [List.getElem?_eq_getElem hi, e])
        have e2 := hcell i (by omega)
        rw [Go.WideShapes.add_plain] at e2
        have e3 : c[s + i]? = some (.int .i64 (zs.getD i 0)) := by simpa [World.cell?, hb] using e2
        rw [e1] at e3
        simp only [Option.some.injEq, Value.int.injEq, true_and] at e3
        rw [e3]
        refine wf_i64 (hwf _ ?_)
        rw [List.getD_eq_getElem?_getD, List.getElem?_eq_getElem (by omega), Option.getD_some]
        exact List.getElem_mem _
theorem filter_in2 {v : Value} {d : DataW H} {p : List MemPlace} (hv : Value.okWide Try.prog W .any base 28 v) (h : DataW.Trod enc Try.prog W 0 (fun _ => true) true 28 v d p) :
    ∃ k r dv vl v2 v5, v = .agg #[.int .i64 k, .int .i64 r, v2, .int .i64 dv, .int .i64 vl, v5] ∧ (i64R k ∧ i64R r ∧ i64R dv ∧ i64R vl) ∧
      (∃ (o : Option (Nat × Nat × List Int)) (len : Nat), inOk W o ∧ len ≤ ((inK o).getD []).length ∧ v2 = slcV o len ∧ ∀ z ∈ (inK o).getD [], i64R z) ∧
      (∃ (o : Option (Nat × Nat × List Int)) (len : Nat), inOk W o ∧ len ≤ ((inK o).getD []).length ∧ v5 = slcV o len ∧ ∀ z ∈ (inK o).getD [], i64R z) := by
  obtain ⟨cs, rfl, hsz, n, hf⟩ := struct_in (us := [3, 3, 22, 3, 3, 26]) Try.underlying28 (by kernel_rfl) (by kernel_rfl) rfl (fieldsB_ok (by kernel_rfl)) hv h
  obtain ⟨v0, _, e0, _, t0⟩ := hf 0 _ rfl
  obtain ⟨v1, _, e1, _, t1⟩ := hf 1 _ rfl
  obtain ⟨v2, _, e2, o2, t2⟩ := hf 2 _ rfl
  obtain ⟨v3, _, e3, _, t3⟩ := hf 3 _ rfl
  obtain ⟨v4, _, e4, _, t4⟩ := hf 4 _ rfl
  obtain ⟨v5, _, e5, o5, t5⟩ := hf 5 _ rfl
  obtain ⟨x0, rfl, r0⟩ := int_in2 Try.underlying3 t0
  obtain ⟨x1, rfl, r1⟩ := int_in2 Try.underlying3 t1
  obtain ⟨x3, rfl, r3⟩ := int_in2 Try.underlying3 t3
  obtain ⟨x4, rfl, r4⟩ := int_in2 Try.underlying3 t4
  refine ⟨x0, x1, x3, x4, v2, v5, ?_, ⟨r0, r1, r3, r4⟩, row_in2 Try.underlying22 o2 t2, row_in2 Try.underlying26 o5 t5⟩
  obtain ⟨l⟩ := cs
  match l, hsz with
  | [a, b, c, d, e, f], _ =>
    cases e0; cases e1; cases e2; cases e3; cases e4; cases e5
    rfl
end
theorem rng_rw (o : RowO) (h : ∀ z ∈ rowOf' o, i64R z) : ∀ z ∈ rw' (noneB o) (rowOf' o), i64R z := by
  cases o with
  | none => intro z hz; cases hz
  | some y => exact h
end Go.Proofs.Ytadejpmecljjpaa
