/- Filter laws anew, part ZR: what comes in: a pixel, a number. No conditions. -/
import Derived.Test.YtadejpmecljjpaaFlZP
set_option linter.unusedVariables false
set_option linter.unusedSimpArgs false
set_option linter.unusedSectionVars false
namespace Go.Proofs.Ytadejpmecljjpaa
open Go Go.ChangeShapes Go.WideShapes Go.ChangeAt Go.RowKit Go.Eng
set_option maxRecDepth 100000
section
variable {H : Type} {enc : TypeId × Value → H} {W : World} {base : Nat}
theorem pix_in {v : Value} {d : DataW H} {p : List MemPlace} (hv : Value.okWide Try.prog W .any base 50 v) (h : DataW.Trod enc Try.prog W 0 (fun _ => true) true 50 v d p) :
    ∃ x0 x1 x2 x3, v = .agg #[.int .u8 x0, .int .u8 x1, .int .u8 x2, .int .u8 x3] := by
  obtain ⟨cs, rfl, hsz, n, hf⟩ := struct_in (us := [5, 5, 5, 5]) Try.underlying50 (by kernel_rfl) (by kernel_rfl) rfl (fieldsB_ok (by kernel_rfl)) hv h
  obtain ⟨v0, _, e0, _, t0⟩ := hf 0 _ rfl
  obtain ⟨v1, _, e1, _, t1⟩ := hf 1 _ rfl
  obtain ⟨v2, _, e2, _, t2⟩ := hf 2 _ rfl
  obtain ⟨v3, _, e3, _, t3⟩ := hf 3 _ rfl
  obtain ⟨x0, rfl⟩ := int_in Try.underlying5 t0
  obtain ⟨x1, rfl⟩ := int_in Try.underlying5 t1
  obtain ⟨x2, rfl⟩ := int_in Try.underlying5 t2
  obtain ⟨x3, rfl⟩ := int_in Try.underlying5 t3
  refine ⟨x0, x1, x2, x3, ?_⟩
  obtain ⟨l⟩ := cs
  match l, hsz with
  | [a, b, c, d], _ =>
    cases e0; cases e1; cases e2; cases e3
    rfl
end
end Go.Proofs.Ytadejpmecljjpaa
