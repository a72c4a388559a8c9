/-
  FilterApply: at every input the law returns true, and what was there before reads as it did. No conditions.
-/
import Derived.Test.YtadejpmecljjpaaFlApM
import Derived.Test.YtadejpmecljjpaaFlZR
set_option linter.unusedVariables false
set_option linter.unusedSimpArgs false
set_option linter.unusedSectionVars false
namespace Go.Proofs.Ytadejpmecljjpaa.filterApply
open Go Go.ChangeShapes Go.WideShapes Go.ChangeAt Go.RowKit Go.Eng
set_option linter.unusedVariables false
set_option maxRecDepth 100000
theorem ln_le2 (n : Bool) {a b : Nat} (h : a ≤ b) : ln n a ≤ ln n b := by cases n with | true => exact Nat.le_refl _ | false => exact h
theorem walk (q0 q1 q2 q3 gk gr gd gv t0 t1 t2 t3 : Int) (oF oM oK oC : RowO) (lF lM lK lC : Nat) (W : World) (hF : inOk W oF) (hM : inOk W oM) (hK : inOk W oK) (hC : inOk W oC) (hlF : lF ≤ (rowOf' oF).length) (hlM : lM ≤ (rowOf' oM).length) (hlK : lK ≤ (rowOf' oK).length) (hlC : lC ≤ (rowOf' oC).length)   (vF vM vK vC : Value)
    (eF : vF = slcV oF lF) (eM : vM = slcV oM lM) (eK : vK = slcV oK lK) (eC : vC = slcV oC lC) :
    Calls Try.prog 3 #[.agg #[vF, vM, .int .i64 q0, .int .i64 q1, .int .i64 q2, .int .i64 q3], .agg #[.int .i64 gk, .int .i64 gr, vK, .int .i64 gd, .int .i64 gv, vC], .agg #[.int .i64 t0, .int .i64 t1, .int .i64 t2, .int .i64 t3]] W fun e w' => e = .returned (.bool true) ∧ Below W.heap.size W w' := by
  obtain ⟨g, hd, hro⟩ := envN_ok (w := W) [oF, oM, oK, oC] (Nat.le_of_ble_eq_true rfl) (by
    simp only [List.mem_cons, List.not_mem_nil, or_false]
    rintro x (rfl | rfl | rfl | rfl) <;> assumption)
  have hrows : rowsOf [oF, oM, oK, oC] = [rwI (noneB oF) (rowOf' oF), rwI (noneB oM) (rowOf' oM), rwI (noneB oK) (rowOf' oK), rwI (noneB oC) (rowOf' oC)] := by
    rw [rwI_eq, rwI_eq, rwI_eq, rwI_eq]; rfl
  rw [hrows] at g hro
  have llF := ln_le hlF
  have llM := ln_le hlM
  have llK := ln_le hlK
  have llC := ln_le hlC
  have hl60 : min 60 (ln (noneB oF) lF) ≤ (rw' (noneB oF) (rowOf' oF)).length := Nat.le_trans (Nat.min_le_right _ _) llF
  obtain ⟨md, hmd⟩ := md_all (Nat.min_le_left 60 (ln (noneB oF) lF)) hl60
  have hT := tgFA (noneB oF) (noneB oM) (noneB oK) (noneB oC) (rowOf' oF) (rowOf' oM) (rowOf' oK) (rowOf' oC) md gk gr gd gv lK (rowOf' oK).length lC (rowOf' oC).length lF (rowOf' oF).length lM (rowOf' oM).length q0 q1 q2 q3 t0 t1 t2 t3 llM llK llC (ln_le2 _ hlK) (ln_le2 _ hlC) hmd
  have rF : vrel (envN W [oF, oM, oK, oC]) (slA (noneB oF) 0 lF (rowOf' oF).length) vF := by rw [eF]; exact slA_rel (E := envN W [oF, oM, oK, oC]) rfl rfl hF hlF
  have rM : vrel (envN W [oF, oM, oK, oC]) (slA (noneB oM) 1 lM (rowOf' oM).length) vM := by rw [eM]; exact slA_rel (E := envN W [oF, oM, oK, oC]) rfl rfl hM hlM
  have rK : vrel (envN W [oF, oM, oK, oC]) (slA (noneB oK) 2 lK (rowOf' oK).length) vK := by rw [eK]; exact slA_rel (E := envN W [oF, oM, oK, oC]) rfl rfl hK hlK
  have rC : vrel (envN W [oF, oM, oK, oC]) (slA (noneB oC) 3 lC (rowOf' oC).length) vC := by rw [eC]; exact slA_rel (E := envN W [oF, oM, oK, oC]) rfl rfl hC hlC
  refine (calls_pure mo po Try.func3 (code := cdFA) (by kernel_rfl) (by kernel_rfl) hT (args' := [.agg #[vF, vM, .int .i64 q0, .int .i64 q1, .int .i64 q2, .int .i64 q3], .agg #[.int .i64 gk, .int .i64 gr, vK, .int .i64 gd, .int .i64 gv, vC], .agg #[.int .i64 t0, .int .i64 t1, .int .i64 t2, .int .i64 t3]]) (E := envN W [oF, oM, oK, oC]) ?_ g hd hro).mono fun e w' ⟨⟨E2, ho⟩, hb⟩ => ?_
  · exact (vcons (vagg (vcons rF (vcons rM (vcons vint (vcons vint (vcons vint (vcons vint vnil))))))) (vcons (vagg (vcons vint (vcons vint (vcons rK (vcons vint (vcons vint (vcons rC vnil))))))) (vcons (vagg (vcons vint (vcons vint (vcons vint (vcons vint vnil))))) vnil)))
  · refine ⟨?_, hb⟩
    cases e with
    | returned v' =>
      have ho : vrel E2 (.bool true) v' := ho
      simp only [vrel] at ho
      rw [ho]
    | _ => exact ho.elim
set_option maxRecDepth 100000 in
theorem lifted (os : Os) (started : os.Started) (H : Type) (enc : TypeId × Value → H) :
    ReturnsInHanded {} Try.checked os 3 .any (Rows.filterApplySpec.pre6 enc Try.prog Try.f3 Rows.filterApplyRow.domain false) (Rows.filterApplySpec.post enc Try.prog Try.f3 false true false false) := by
  refine returnsInHanded_of_change (C := Try.checked) own started (by kernel_rfl) Try.func3
    (ChangeSpec.witness6 (enc := enc) (C := Try.checked) false ⟨#[], #[.agg #[.slice none 0 0, .slice none 0 0, .int .i64 0, .int .i64 0, .int .i64 0, .int .i64 0], .agg #[.int .i64 0, .int .i64 0, .slice none 0 0, .int .i64 0, .int .i64 0, .slice none 0 0], .agg #[.int .i64 0, .int .i64 0, .int .i64 0, .int .i64 0]], []⟩ 8 (by kernel_rfl) (by kernel_rfl) (by kernel_rfl) (by kernel_rfl)) ?_
  intro W base args ds gs before hval0 hW hcnd _
  have hval : ∀ (j : Nat) t v, Try.f3.params[j]? = some t → args[j]? = some v → Value.okWide Try.prog W .any base t v := hval0
  have hW' := hW
  obtain ⟨p, q, hA0, hV, rfl, hfz, hnd⟩ := hW
  have hA : DataW.TrodAll enc Try.prog W 0 (fun _ => true) true Try.f3.params.toList args.toList ds p := hA0
  have hA1 := hA
  rw [Try.params3] at hA hval
  obtain ⟨v0, vs0, d0, ds0, p0, q0, hargs, rfl, rfl, h0, r0⟩ := trodAll_cons hA
  obtain ⟨v1, vs1, d1, ds1, p1, q1, rfl, rfl, rfl, h1, r1⟩ := trodAll_cons r0
  obtain ⟨v2, vs2, d2, ds2, p2, q2, rfl, rfl, rfl, h2, r2⟩ := trodAll_cons r1
  obtain ⟨rfl, rfl, rfl⟩ := trodAll_nil r2
  obtain rfl : args = #[v0, v1, v2] := by cases args; simp_all
  obtain ⟨rfl, rfl⟩ := trodVars_none hV
  obtain ⟨vF, vM, q0, q1, q2, q3, rfl, ⟨oF, lF, hF, hlF, eF⟩, ⟨oM, lM, hM, hlM, eM⟩⟩ := ask_in (hval 0 25 v0 rfl rfl) h0
  obtain ⟨gk, gr, gd, gv, vK, vC, rfl, ⟨oK, lK, hK, hlK, eK⟩, ⟨oC, lC, hC, hlC, eC⟩⟩ := filter_in (hval 1 28 v1 rfl rfl) h1
  obtain ⟨t0, t1, t2, t3, rfl⟩ := rect_in (hval 2 30 v2 rfl rfl) h2
  clear hA0 hval0
  refine (walk q0 q1 q2 q3 gk gr gd gv t0 t1 t2 t3 oF oM oK oC lF lM lK lC W hF hM hK hC hlF hlM hlK hlC   vF vM vK vC eF eM eK eC).mono fun e W' ⟨he, hg⟩ => ?_
  subst he
  exact ⟨_, rfl, post_of_below (pv := []) hW' (fun _ _ _ => (trodAll_cons_mk (shut_bool Try.underlying4 _) trodAll_mk0)) (fun sp hs => args_stay laid mapd full hg (by rw [Try.params3]; intro t ht; simp at ht; rcases ht with rfl | rfl | rfl <;> exact Nat.le_of_ble_eq_true (by kernel_rfl)) hA1 (fun p hp => hs p (by simpa using hp))) (fun _ _ => rfl) (by simp) hg (ok_one (by kernel_rfl) rfl (okWide_bool_mk Try.underlying4 _))⟩
theorem over : Rows.filterApplyRow.holds Try.pinned (OpenSpec.ofChange Rows.filterApplySpec) :=
  OpenClaim.holds_of_wide 3 Try.f3 rfl rfl rfl rfl rfl rfl rfl ⟨rfl, rfl, rfl, rfl, rfl⟩ rfl rfl rfl rfl rfl (by kernel_rfl) Try.func3 (by kernel_rfl)
    (of_decide_eq_true (by kernel_rfl)) (by unfold Func.isWrapper; first | (rw [if_pos (by decide +kernel)]; kernel_rfl) | (rw [if_neg (by decide +kernel)]; exact ⟨rfl, rfl⟩))
    (fun os started H enc _ => lifted os started H enc)
theorem proved : Rows.FilterApplySaid :=
  over
#print axioms proved
end Go.Proofs.Ytadejpmecljjpaa.filterApply
