/-
  FilterValid: at every input the law returns true, and what was there before reads as it did. No conditions.
-/
import Derived.Test.YtadejpmecljjpaaFlFive
namespace Go.Proofs.Ytadejpmecljjpaa.filterValid
open Go Go.ChangeShapes Go.WideShapes Go.ChangeAt Go.RowKit Go.Eng
set_option linter.unusedVariables false
set_option maxRecDepth 100000

theorem walk (k r dv vl q0 q1 : Int) (oK oC oS : RowO) (lK lC lS : Nat) (W : World) (hK : inOk W oK) (hC : inOk W oC) (hS : inOk W oS) (h1 : lK ≤ (rowOf' oK).length) (h2 : lC ≤ (rowOf' oC).length) (h3 : lS ≤ (rowOf' oS).length) (vK vC vS : Value)
    (e1 : vK = slcV oK lK) (e2 : vC = slcV oC lC) (e3 : vS = slcV oS lS) :
    Calls Try.prog 11 #[.agg #[.int .i64 k, .int .i64 r, vK, .int .i64 dv, .int .i64 vl, vC], vS, .agg #[.int .i64 q0, .int .i64 q1]] W fun e w' => e = .returned (.bool true) ∧ Below W.heap.size W w' := by
  obtain ⟨g, hd, hro⟩ := envN_ok (w := W) [oK, oC, oS] (Nat.le_of_ble_eq_true rfl) (by
    simp only [List.mem_cons, List.not_mem_nil, or_false]
    rintro x (rfl | rfl | rfl) <;> assumption)
  have hrows : rowsOf [oK, oC, oS] = [opR (noneB oK) (rowOf' oK), opR (noneB oC) (rowOf' oC), opR (noneB oS) (rowOf' oS)] := by
    rw [opR_eq, opR_eq, opR_eq]; rfl
  rw [hrows] at g hro
  have hT := tgFV (noneB oK) (noneB oC) (noneB oS) k r dv vl lK (rowOf' oK).length lC (rowOf' oC).length lS (rowOf' oS).length (rowOf' oK) (rowOf' oC) (rowOf' oS) q0 q1 (fun _ => ⟨h1, h1⟩) (fun _ => ⟨h2, h2⟩) (fun _ => ⟨h3, h3⟩)
  have rK : vrel (envN W [oK, oC, oS]) (slN (noneB oK) 0 lK (rowOf' oK).length) vK := by rw [e1]; exact slN_rel (E := envN W [oK, oC, oS]) rfl rfl hK h1
  have rC : vrel (envN W [oK, oC, oS]) (slN (noneB oC) 1 lC (rowOf' oC).length) vC := by rw [e2]; exact slN_rel (E := envN W [oK, oC, oS]) rfl rfl hC h2
  have rS : vrel (envN W [oK, oC, oS]) (slN (noneB oS) 2 lS (rowOf' oS).length) vS := by rw [e3]; exact slN_rel (E := envN W [oK, oC, oS]) rfl rfl hS h3
  refine (calls_pure mo po Try.func11 (code := cdFV) (by kernel_rfl) (by kernel_rfl) hT (args' := [.agg #[.int .i64 k, .int .i64 r, vK, .int .i64 dv, .int .i64 vl, vC], vS, .agg #[.int .i64 q0, .int .i64 q1]]) (E := envN W [oK, oC, oS]) ?_ g hd hro).mono fun e w' ⟨⟨E2, ho⟩, hb⟩ => ?_
  · exact vcons (vagg (vcons vint (vcons vint (vcons rK (vcons vint (vcons vint (vcons rC vnil))))))) (vcons rS (vcons (vagg (vcons vint (vcons vint vnil))) vnil))
  · refine ⟨?_, hb⟩
    cases e with
    | returned v' =>
      have ho : vrel E2 (.bool true) v' := ho
      simp only [vrel] at ho
      rw [ho]
    | _ => exact ho.elim

/-! ### THE ROW's STEP -/
set_option maxRecDepth 100000 in
theorem lifted (os : Os) (started : os.Started) (H : Type) (enc : TypeId × Value → H) :
    ReturnsInHanded {} Try.checked os 11 .any (Rows.filterValidSpec.pre6 enc Try.prog Try.f11 Rows.filterValidRow.domain false) (Rows.filterValidSpec.post enc Try.prog Try.f11 false true false false) := by
  refine returnsInHanded_of_change (C := Try.checked) own started (by kernel_rfl) Try.func11
    (ChangeSpec.witness6 (enc := enc) (C := Try.checked) false ⟨#[], #[.agg #[.int .i64 0, .int .i64 0, .slice none 0 0, .int .i64 0, .int .i64 0, .slice none 0 0], .slice none 0 0, .agg #[.int .i64 0, .int .i64 0]], []⟩ 8 (by kernel_rfl) (by kernel_rfl) (by kernel_rfl) (by kernel_rfl)) ?_
  intro W base args ds gs before hval0 hW hcnd _
  have hval : ∀ (j : Nat) t v, Try.f11.params[j]? = some t → args[j]? = some v → Value.okWide Try.prog W .any base t v := hval0
  have hW' := hW
  obtain ⟨p, q, hA0, hV, rfl, hfz, hnd⟩ := hW
  have hA : DataW.TrodAll enc Try.prog W 0 (fun _ => true) true Try.f11.params.toList args.toList ds p := hA0
  have hA1 := hA
  rw [Try.params11] at hA hval
  obtain ⟨v0, vs0, d0, ds0, p0, q0, hargs, rfl, rfl, h0, r0⟩ := trodAll_cons hA
  obtain ⟨v1, vs1, d1, ds1, p1, q1, rfl, rfl, rfl, h1, r1⟩ := trodAll_cons r0
  obtain ⟨v2, vs2, d2, ds2, p2, q2, rfl, rfl, rfl, h2, r2⟩ := trodAll_cons r1
  obtain ⟨rfl, rfl, rfl⟩ := trodAll_nil r2
  obtain rfl : args = #[v0, v1, v2] := by cases args; simp_all
  obtain ⟨rfl, rfl⟩ := trodVars_none hV
  obtain ⟨k, r, dv, vl, vK, vC, rfl, ⟨oK, lK, hK, hlK, eK⟩, ⟨oC, lC, hC, hlC, eC⟩⟩ := filter_in (hval 0 28 v0 rfl rfl) h0
  obtain ⟨n1, h1'⟩ := h1
  have hv1 : Cell.okWide Try.prog W .any base 22 v1 := by
    have := hval 1 22 v1 rfl rfl
    simpa only [Value.okWide, Try.underlying22] using this
  have hc1 : v1.cells.toList = [v1] := slice_cells Try.underlying22 hv1
  rw [hc1] at h1'
  obtain ⟨oS, lS, hS, hlS, eS⟩ := row_in Try.underlying22 hv1 h1'
  obtain ⟨a, b, rfl⟩ := two_in (hval 2 46 v2 rfl rfl) h2
  clear hA0 hval0
  refine (walk k r dv vl a b oK oC oS lK lC lS W hK hC hS hlK hlC hlS vK vC v1 eK eC eS).mono fun e W' ⟨he, hg⟩ => ?_
  subst he
  exact ⟨_, rfl, post_of_below (pv := []) hW' (fun _ _ _ => (trodAll_cons_mk (shut_bool Try.underlying4 _) trodAll_mk0)) (fun sp hs => args_stay laid mapd full hg (by rw [Try.params11]; intro t ht; simp at ht; rcases ht with rfl | rfl | rfl <;> exact Nat.le_of_ble_eq_true (by kernel_rfl)) hA1 (fun p hp => hs p (by simpa using hp))) (fun _ _ => rfl) (by simp) hg (ok_one (by kernel_rfl) rfl (okWide_bool_mk Try.underlying4 _))⟩

theorem over : Rows.filterValidRow.holds Try.pinned (OpenSpec.ofChange Rows.filterValidSpec) :=
  OpenClaim.holds_of_wide 11 Try.f11 rfl rfl rfl rfl rfl rfl rfl ⟨rfl, rfl, rfl, rfl, rfl⟩ rfl rfl rfl rfl rfl (by kernel_rfl) Try.func11 (by kernel_rfl)
    (of_decide_eq_true (by kernel_rfl)) (by unfold Func.isWrapper; first | (rw [if_pos (by decide +kernel)]; kernel_rfl) | (rw [if_neg (by decide +kernel)]; exact ⟨rfl, rfl⟩))
    (fun os started H enc _ => lifted os started H enc)

/-- THE STATEMENT -/
theorem proved : Rows.FilterValidSaid :=
  over
#print axioms proved
end Go.Proofs.Ytadejpmecljjpaa.filterValid
