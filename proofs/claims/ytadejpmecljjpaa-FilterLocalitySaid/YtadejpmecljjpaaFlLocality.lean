/-
  FilterLocality: at every input the law returns true, and what was there before reads as it did. No conditions.
-/
import Derived.Test.YtadejpmecljjpaaFlLyB
import Derived.Test.YtadejpmecljjpaaFlZR
set_option linter.unusedVariables false
set_option linter.unusedSimpArgs false
set_option linter.unusedSectionVars false
namespace Go.Proofs.Ytadejpmecljjpaa.filterLocality
open Go Go.ChangeShapes Go.WideShapes Go.ChangeAt Go.RowKit Go.Eng
set_option linter.unusedVariables false
set_option maxRecDepth 100000
theorem ln_le2 (n : Bool) {a b : Nat} (h : a ≤ b) : ln n a ≤ ln n b := by cases n with | true => exact Nat.le_refl _ | false => exact h
theorem walk (q0 q1 q2 q3 b0 b1 : Int) (oF oM oS : RowO) (lF lM lS : Nat) (W : World) (hF : inOk W oF) (hM : inOk W oM) (hS : inOk W oS) (hlF : lF ≤ (rowOf' oF).length) (hlM : lM ≤ (rowOf' oM).length) (hlS : lS ≤ (rowOf' oS).length) (vF vM vS : Value)
    (eF : vF = slcV oF lF) (eM : vM = slcV oM lM) (eS : vS = slcV oS lS) :
    Calls Try.prog 7 #[.agg #[vF, vM, .int .i64 q0, .int .i64 q1, .int .i64 q2, .int .i64 q3], vS, .agg #[.int .i64 b0, .int .i64 b1]] W fun e w' => e = .returned (.bool true) ∧ Below W.heap.size W w' := by
  obtain ⟨g, hd, hro⟩ := envN_ok (w := W) [oF, oM, oS] (Nat.le_of_ble_eq_true rfl) (by
    simp only [List.mem_cons, List.not_mem_nil, or_false]
    rintro x (rfl | rfl | rfl) <;> assumption)
  have hrows : rowsOf [oF, oM, oS] = [rwI (noneB oF) (rowOf' oF), rwI (noneB oM) (rowOf' oM), rwI (noneB oS) (rowOf' oS)] := by
    rw [rwI_eq, rwI_eq, rwI_eq]; rfl
  rw [hrows] at g hro
  have llF := ln_le hlF
  have llM := ln_le hlM
  have llS := ln_le hlS
  have hl60 : min 60 (ln (noneB oF) lF) ≤ (rw' (noneB oF) (rowOf' oF)).length := Nat.le_trans (Nat.min_le_right _ _) llF
  obtain ⟨md, hmd⟩ := md_all (Nat.min_le_left 60 (ln (noneB oF) lF)) hl60
  have hT := tgLy (noneB oF) (noneB oM) (noneB oS) (rowOf' oF) (rowOf' oM) (rowOf' oS) md lF (rowOf' oF).length lM (rowOf' oM).length lS (rowOf' oS).length q0 q1 q2 q3 b0 b1 llM llS (ln_le2 _ hlS) hmd
  have rF : vrel (envN W [oF, oM, oS]) (slA (noneB oF) 0 lF (rowOf' oF).length) vF := by rw [eF]; exact slA_rel (E := envN W [oF, oM, oS]) rfl rfl hF hlF
  have rM : vrel (envN W [oF, oM, oS]) (slA (noneB oM) 1 lM (rowOf' oM).length) vM := by rw [eM]; exact slA_rel (E := envN W [oF, oM, oS]) rfl rfl hM hlM
  have rS : vrel (envN W [oF, oM, oS]) (slA (noneB oS) 2 lS (rowOf' oS).length) vS := by rw [eS]; exact slA_rel (E := envN W [oF, oM, oS]) rfl rfl hS hlS
  refine (calls_pure mo po Try.func7 (code := cdLy) (by kernel_rfl) (by kernel_rfl) hT (args' := [.agg #[vF, vM, .int .i64 q0, .int .i64 q1, .int .i64 q2, .int .i64 q3], vS, .agg #[.int .i64 b0, .int .i64 b1]]) (E := envN W [oF, oM, oS]) ?_ g hd hro).mono fun e w' ⟨⟨E2, ho⟩, hb⟩ => ?_
  · exact (vcons (vagg (vcons rF (vcons rM (vcons vint (vcons vint (vcons vint (vcons vint vnil))))))) (vcons rS (vcons (vagg (vcons vint (vcons vint vnil))) vnil)))
  · refine ⟨?_, hb⟩
    cases e with
    | returned v' =>
      have ho : vrel E2 (.bool true) v' := ho
      simp only [vrel] at ho
      rw [ho]
    | _ => exact ho.elim
set_option maxRecDepth 100000 in
theorem lifted (os : Os) (started : os.Started) (H : Type) (enc : TypeId × Value → H) :
    ReturnsInHanded {} Try.checked os 7 .any (Rows.filterLocalitySpec.pre6 enc Try.prog Try.f7 Rows.filterLocalityRow.domain false) (Rows.filterLocalitySpec.post enc Try.prog Try.f7 false true false false) := by
  refine returnsInHanded_of_change (C := Try.checked) own started (by kernel_rfl) Try.func7
    (ChangeSpec.witness6 (enc := enc) (C := Try.checked) false ⟨#[], #[.agg #[.slice none 0 0, .slice none 0 0, .int .i64 0, .int .i64 0, .int .i64 0, .int .i64 0], .slice none 0 0, .agg #[.int .i64 0, .int .i64 0]], []⟩ 8 (by kernel_rfl) (by kernel_rfl) (by kernel_rfl) (by kernel_rfl)) ?_
  intro W base args ds gs before hval0 hW hcnd _
  have hval : ∀ (j : Nat) t v, Try.f7.params[j]? = some t → args[j]? = some v → Value.okWide Try.prog W .any base t v := hval0
  have hW' := hW
  obtain ⟨p, q, hA0, hV, rfl, hfz, hnd⟩ := hW
  have hA : DataW.TrodAll enc Try.prog W 0 (fun _ => true) true Try.f7.params.toList args.toList ds p := hA0
  have hA1 := hA
  rw [Try.params7] at hA hval
  obtain ⟨v0, vs0, d0, ds0, p0, q0, hargs, rfl, rfl, h0, r0⟩ := trodAll_cons hA
  obtain ⟨v1, vs1, d1, ds1, p1, q1, rfl, rfl, rfl, h1, r1⟩ := trodAll_cons r0
  obtain ⟨v2, vs2, d2, ds2, p2, q2, rfl, rfl, rfl, h2, r2⟩ := trodAll_cons r1
  obtain ⟨rfl, rfl, rfl⟩ := trodAll_nil r2
  obtain rfl : args = #[v0, v1, v2] := by cases args; simp_all
  obtain ⟨rfl, rfl⟩ := trodVars_none hV
  obtain ⟨vF, vM, q0, q1, q2, q3, rfl, ⟨oF, lF, hF, hlF, eF⟩, ⟨oM, lM, hM, hlM, eM⟩⟩ := ask_in (hval 0 25 v0 rfl rfl) h0
  obtain ⟨n1, h1'⟩ := h1
  have hv1 : Cell.okWide Try.prog W .any base 22 v1 := by
    have := hval 1 22 v1 rfl rfl
    simpa only [Value.okWide, Try.underlying22] using this
  have hc1 : v1.cells.toList = [v1] := slice_cells Try.underlying22 hv1
  rw [hc1] at h1'
  obtain ⟨oS, lS, hS, hlS, eS⟩ := row_in Try.underlying22 hv1 h1'
  obtain ⟨b0, b1, rfl⟩ := two_in (hval 2 46 v2 rfl rfl) h2
  clear hA0 hval0
  refine (walk q0 q1 q2 q3 b0 b1 oF oM oS lF lM lS W hF hM hS hlF hlM hlS vF vM v1 eF eM eS).mono fun e W' ⟨he, hg⟩ => ?_
  subst he
  exact ⟨_, rfl, post_of_below (pv := []) hW' (fun _ _ _ => (trodAll_cons_mk (shut_bool Try.underlying4 _) trodAll_mk0)) (fun sp hs => args_stay laid mapd full hg (by rw [Try.params7]; intro t ht; simp at ht; rcases ht with rfl | rfl | rfl <;> exact Nat.le_of_ble_eq_true (by kernel_rfl)) hA1 (fun p hp => hs p (by simpa using hp))) (fun _ _ => rfl) (by simp) hg (ok_one (by kernel_rfl) rfl (okWide_bool_mk Try.underlying4 _))⟩
theorem over : Rows.filterLocalityRow.holds Try.pinned (OpenSpec.ofChange Rows.filterLocalitySpec) :=
  OpenClaim.holds_of_wide 7 Try.f7 rfl rfl rfl rfl rfl rfl rfl ⟨rfl, rfl, rfl, rfl, rfl⟩ rfl rfl rfl rfl rfl (by kernel_rfl) Try.func7 (by kernel_rfl)
    (of_decide_eq_true (by kernel_rfl)) (by unfold Func.isWrapper; first | (rw [if_pos (by decide +kernel)]; kernel_rfl) | (rw [if_neg (by decide +kernel)]; exact ⟨rfl, rfl⟩))
    (fun os started H enc _ => lifted os started H enc)
theorem proved : Rows.FilterLocalitySaid :=
  over
#print axioms proved
end Go.Proofs.Ytadejpmecljjpaa.filterLocality
