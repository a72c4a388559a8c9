/-
  DocOrder: at every input the law returns true, and what was there before reads as it did. No conditions.
-/
import Derived.Test.YtmjggdmekboefaaGreatJointW16
import Derived.Test.YtmjggdmekboefaaGreatJointW20
set_option linter.unusedVariables false
set_option linter.unusedSimpArgs false
set_option linter.unusedSectionVars false
namespace Go.Proofs.YtmjggdmekboefaaGreat.docOrder
open Go Go.ChangeShapes Go.WideShapes Go.ChangeAt Go.RowKit Go.Eng
set_option maxRecDepth 100000
theorem arT(l : List Int)(v0 : Value)(hk : World)(OD : kS (vU hk) (.eB l.length (dO l)) v0) :
    Calls Tryz.prog 5 #[v0] hk fun e w' => e = .returned (.bool true)/\Below hk.heap.size hk w' :=
  NN (args := [fj l]) (vs := [v0]) Tryz.func5 (code := GI) C C (ZX l) (afT (rE (E := Bo (vU hk)) _ _ OD) arN)
theorem Z0(os : Os)(GK : os.Started)(dm : Type)(enc : TypeId×Value->dm) :
    ReturnsInHanded {} Tryz.checked os 5 .any (Rows.docOrderSpec.pre6 enc Tryz.prog Tryz.f5 Rows.docOrderRow.domain false) (Rows.docOrderSpec.post enc Tryz.prog Tryz.f5 false true false false) := by
  refine returnsInHanded_of_change (C := Tryz.checked) own GK C Tryz.func5
    (ChangeSpec.witness6 (enc := enc) (C := Tryz.checked) false ⟨#[], #[.slice none 0 0], []⟩ 8 C C C C) ?_
  intro hk base args ds gs ru V2 hW av6 _;have Uy : ∀(j : Nat) t v, Tryz.f5.params[j]? = some t->args[j]? = some v->Value.okWide Tryz.prog hk .any base t v := V2;have hW' := hW;obtain⟨p, q, VH, hV, rfl, DJ, hnd⟩ := hW;have hA : DataW.TrodAll enc Tryz.prog hk 0 (fun _ => true) true Tryz.f5.params.toList args.toList ds p := VH;have hA1 := hA;rw[Tryz.params5]at hA Uy;obtain⟨v0, vs0, d0, x9, p0, q0, mA, rfl, rfl, h0, r0⟩ := trodAll_cons hA;obtain⟨rfl, rfl, rfl⟩ := trodAll_nil r0;obtain rfl : args = #[v0] := by cases args;simp_all
  obtain⟨rfl, rfl⟩ := trodVars_none hV;obtain⟨l, hl⟩ := U0 C (ZY (Uy 0 22 v0 rfl rfl) (fun _ => by rw[Tryz.underlying22];simp) (fun _ _ => by rw[Tryz.underlying22];simp)) h0;clear VH V2;refine(arT l v0 hk hl).mono fun e W' ⟨he, hg⟩ => ?_;subst he;exact⟨_, rfl, Ea (pv := []) hW' (fun _ _ _ => (trodAll_cons_mk (shut_bool Tryz.underlying4 _) trodAll_mk0)) (fun sp hs => E6 afU arO arP hg (by rw[Tryz.params5];intro t ht;simp at ht;rcases ht with rfl;exact Nat.le_of_ble_eq_true C) hA1 (fun p hp => hs p (by simpa using hp))) (fun _ _ => rfl) (by simp) hg (ok_one C rfl (okWide_bool_mk Tryz.underlying4 _))⟩
theorem proved : Rows.DocOrderSaid :=
  OpenClaim.holds_of_wide 5 Tryz.f5 rfl rfl rfl rfl rfl rfl rfl ⟨rfl, rfl, rfl, rfl, rfl⟩ rfl rfl rfl rfl rfl C Tryz.func5 C
    (of_decide_eq_true C) (by unfold Func.isWrapper;first|(rw[if_pos (by decide +kernel)];kernel_rfl)|(rw[if_neg (by decide +kernel)];exact⟨rfl, rfl⟩))
    (fun os GK dm enc _ => Z0 os GK dm enc)
#print axioms proved
end Go.Proofs.YtmjggdmekboefaaGreat.docOrder
