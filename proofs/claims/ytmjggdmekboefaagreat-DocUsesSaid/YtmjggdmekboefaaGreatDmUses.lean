/-
  DocUses: at every input the law returns true, and what was there before reads as it did. No conditions.
-/
import Derived.Test.YtmjggdmekboefaaGreatJointW15
import Derived.Test.YtmjggdmekboefaaGreatJointW19
set_option linter.unusedVariables false
set_option linter.unusedSimpArgs false
set_option linter.unusedSectionVars false
namespace Go.Proofs.YtmjggdmekboefaaGreat.docUses
open Go Go.ChangeShapes Go.WideShapes Go.ChangeAt Go.RowKit Go.Eng
set_option maxRecDepth 100000
theorem aqx(l : List Int)(v0 : Value)(hL : World)(NT : kN (vB hL) (.eo l.length (dM l)) v0) :
    Calls Tryz.prog 4 #[v0] hL fun e w' => e = .returned (.bool true)/\Below hL.heap.size hL w' :=
  MY (args := [fg l]) (vs := [v0]) Tryz.func4 (code := Kz) C C (aeC l) (aeD (q8 (E := AW (vB hL)) _ _ NT) aqr)
theorem Y2(os : Os)(F7 : os.Started)(hx : Type)(enc : TypeId×Value->hx) :
    ReturnsInHanded {} Tryz.checked os 4 .any (Rows.docUsesSpec.pre6 enc Tryz.prog Tryz.f4 Rows.docUsesRow.domain false) (Rows.docUsesSpec.post enc Tryz.prog Tryz.f4 false true false false) := by
  refine returnsInHanded_of_change (C := Tryz.checked) own F7 C Tryz.func4
    (ChangeSpec.witness6 (enc := enc) (C := Tryz.checked) false ⟨#[], #[.slice none 0 0], []⟩ 8 C C C C) ?_
  intro hL base args ds gs qT Vc hW auV _;have TJ : ∀(j : Nat) t v, Tryz.f4.params[j]? = some t->args[j]? = some v->Value.okWide Tryz.prog hL .any base t v := Vc;have hW' := hW;obtain⟨p, q, UQ, hV, rfl, C9, hnd⟩ := hW;have hA : DataW.TrodAll enc Tryz.prog hL 0 (fun _ => true) true Tryz.f4.params.toList args.toList ds p := UQ;have hA1 := hA;rw[Tryz.params4]at hA TJ;obtain⟨v0, vs0, d0, xP, p0, q0, mj, rfl, rfl, h0, r0⟩ := trodAll_cons hA;obtain⟨rfl, rfl, rfl⟩ := trodAll_nil r0;obtain rfl : args = #[v0] := by cases args;simp_all
  obtain⟨rfl, rfl⟩ := trodVars_none hV;obtain⟨l, hl⟩ := T9 C (Y0 (TJ 0 22 v0 rfl rfl) (fun _ => by rw[Tryz.underlying22];simp) (fun _ _ => by rw[Tryz.underlying22];simp)) h0;clear UQ Vc;refine(aqx l v0 hL hl).mono fun e W' ⟨he, hg⟩ => ?_;subst he;exact⟨_, rfl, DD (pv := []) hW' (fun _ _ _ => (trodAll_cons_mk (shut_bool Tryz.underlying4 _) trodAll_mk0)) (fun sp hs => Et aeE aqs aqt hg (by rw[Tryz.params4];intro t ht;simp at ht;rcases ht with rfl;exact Nat.le_of_ble_eq_true C) hA1 (fun p hp => hs p (by simpa using hp))) (fun _ _ => rfl) (by simp) hg (ok_one C rfl (okWide_bool_mk Tryz.underlying4 _))⟩
theorem proved : Rows.DocUsesSaid :=
  OpenClaim.holds_of_wide 4 Tryz.f4 rfl rfl rfl rfl rfl rfl rfl ⟨rfl, rfl, rfl, rfl, rfl⟩ rfl rfl rfl rfl rfl C Tryz.func4 C
    (of_decide_eq_true C) (by unfold Func.isWrapper;first|(rw[if_pos (by decide +kernel)];kernel_rfl)|(rw[if_neg (by decide +kernel)];exact⟨rfl, rfl⟩))
    (fun os F7 hx enc _ => Y2 os F7 hx enc)
#print axioms proved
end Go.Proofs.YtmjggdmekboefaaGreat.docUses
