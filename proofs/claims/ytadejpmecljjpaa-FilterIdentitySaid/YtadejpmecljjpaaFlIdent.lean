/-
  FilterIdentity: at every input the law returns true, and what was there before reads as it did. No conditions.
-/
import Derived.Test.YtadejpmecljjpaaFlIdC
import Derived.Test.YtadejpmecljjpaaFlZR
set_option linter.unusedVariables false
set_option linter.unusedSimpArgs false
set_option linter.unusedSectionVars false
namespace Go.Proofs.Ytadejpmecljjpaa.filterIdentity
open Go Go.ChangeShapes Go.WideShapes Go.ChangeAt Go.RowKit Go.Eng
set_option linter.unusedVariables false
set_option maxRecDepth 100000
theorem ln_le2 (n : Bool) {a b : Nat} (h : a ≤ b) : ln n a ≤ ln n b := by cases n with | true => exact Nat.le_refl _ | false => exact h
theorem walk (q0 q1 q2 q3 b0 b1 : Int) (oF oM : RowO) (lF lM : Nat) (W : World) (hF : inOk W oF) (hM : inOk W oM) (hlF : lF ≤ (rowOf' oF).length) (hlM : lM ≤ (rowOf' oM).length) (wb0 : 0 ≤ b0 ∧ b0 ≤ 255) (wb1 : 0 ≤ b1 ∧ b1 ≤ 255) (vF vM : Value)
    (eF : vF = slcV oF lF) (eM : vM = slcV oM lM) :
    Calls Try.prog 12 #[.agg #[vF, vM, .int .i64 q0, .int .i64 q1, .int .i64 q2, .int .i64 q3], .int .u8 b0, .int .u8 b1] W fun e w' => e = .returned (.bool true) ∧ Below W.heap.size W w' := by
  obtain ⟨g, hd, hro⟩ := envN_ok (w := W) [oF, oM] (Nat.le_of_ble_eq_true rfl) (by
    simp only [List.mem_cons, List.not_mem_nil, or_false]
    rintro x (rfl | rfl) <;> assumption)
  have hrows : rowsOf [oF, oM] = [rwI (noneB oF) (rowOf' oF), rwI (noneB oM) (rowOf' oM)] := by
    rw [rwI_eq, rwI_eq]; rfl
  rw [hrows] at g hro
  have llF := ln_le hlF
  have llM := ln_le hlM
  have hl60 : min 60 (ln (noneB oF) lF) ≤ (rw' (noneB oF) (rowOf' oF)).length := Nat.le_trans (Nat.min_le_right _ _) llF
  obtain ⟨md, hmd⟩ := md_all (Nat.min_le_left 60 (ln (noneB oF) lF)) hl60
  have hT := tgId (noneB oF) (noneB oM) (rowOf' oF) (rowOf' oM) lF (rowOf' oF).length lM (rowOf' oM).length q0 q1 q2 q3 b0 b1 llM (ln_le2 _ hlM) wb0 wb1
  have rF : vrel (envN W [oF, oM]) (slA (noneB oF) 0 lF (rowOf' oF).length) vF := by rw [eF]; exact slA_rel (E := envN W [oF, oM]) rfl rfl hF hlF
  have rM : vrel (envN W [oF, oM]) (slA (noneB oM) 1 lM (rowOf' oM).length) vM := by rw [eM]; exact slA_rel (E := envN W [oF, oM]) rfl rfl hM hlM
  refine (calls_pure mo po Try.func12 (code := cdId) (by kernel_rfl) (by kernel_rfl) hT (args' := [.agg #[vF, vM, .int .i64 q0, .int .i64 q1, .int .i64 q2, .int .i64 q3], .int .u8 b0, .int .u8 b1]) (E := envN W [oF, oM]) ?_ g hd hro).mono fun e w' ⟨⟨E2, ho⟩, hb⟩ => ?_
  · exact (vcons (vagg (vcons rF (vcons rM (vcons vint (vcons vint (vcons vint (vcons vint vnil))))))) (vcons vint (vcons vint vnil)))
  · refine ⟨?_, hb⟩
    cases e with
    | returned v' =>
      have ho : vrel E2 (.bool true) v' := ho
      simp only [vrel] at ho
      rw [ho]
    | _ => exact ho.elim
set_option maxRecDepth 100000 in
theorem lifted (os : Os) (started : os.Started) (H : Type) (enc : TypeId × Value → H) :
    ReturnsInHanded {} Try.checked os 12 .any (Rows.filterIdentitySpec.pre6 enc Try.prog Try.f12 Rows.filterIdentityRow.domain false) (Rows.filterIdentitySpec.post enc Try.prog Try.f12 false true false false) := by
  refine returnsInHanded_of_change (C := Try.checked) own started (by kernel_rfl) Try.func12
    (ChangeSpec.witness6 (enc := enc) (C := Try.checked) false ⟨#[], #[.agg #[.slice none 0 0, .slice none 0 0, .int .i64 0, .int .i64 0, .int .i64 0, .int .i64 0], .int .u8 0, .int .u8 0], []⟩ 8 (by kernel_rfl) (by kernel_rfl) (by kernel_rfl) (by kernel_rfl)) ?_
  intro W base args ds gs before hval0 hW hcnd _
  have hval : ∀ (j : Nat) t v, Try.f12.params[j]? = some t → args[j]? = some v → Value.okWide Try.prog W .any base t v := hval0
  have hW' := hW
  obtain ⟨p, q, hA0, hV, rfl, hfz, hnd⟩ := hW
  have hA : DataW.TrodAll enc Try.prog W 0 (fun _ => true) true Try.f12.params.toList args.toList ds p := hA0
  have hA1 := hA
  rw [Try.params12] at hA hval
  obtain ⟨v0, vs0, d0, ds0, p0, q0, hargs, rfl, rfl, h0, r0⟩ := trodAll_cons hA
  obtain ⟨v1, vs1, d1, ds1, p1, q1, rfl, rfl, rfl, h1, r1⟩ := trodAll_cons r0
  obtain ⟨v2, vs2, d2, ds2, p2, q2, rfl, rfl, rfl, h2, r2⟩ := trodAll_cons r1
  obtain ⟨rfl, rfl, rfl⟩ := trodAll_nil r2
  obtain rfl : args = #[v0, v1, v2] := by cases args; simp_all
  obtain ⟨rfl, rfl⟩ := trodVars_none hV
  obtain ⟨vF, vM, q0, q1, q2, q3, rfl, ⟨oF, lF, hF, hlF, eF⟩, ⟨oM, lM, hM, hlM, eM⟩⟩ := ask_in (hval 0 25 v0 rfl rfl) h0
  obtain ⟨b0, rfl, wb0⟩ := u8_in (hval 1 5 v1 rfl rfl) h1
  obtain ⟨b1, rfl, wb1⟩ := u8_in (hval 2 5 v2 rfl rfl) h2
  clear hA0 hval0
  refine (walk q0 q1 q2 q3 b0 b1 oF oM lF lM W hF hM hlF hlM wb0 wb1 vF vM eF eM).mono fun e W' ⟨he, hg⟩ => ?_
  subst he
  exact ⟨_, rfl, post_of_below (pv := []) hW' (fun _ _ _ => (trodAll_cons_mk (shut_bool Try.underlying4 _) trodAll_mk0)) (fun sp hs => args_stay laid mapd full hg (by rw [Try.params12]; intro t ht; simp at ht; rcases ht with rfl | rfl <;> exact Nat.le_of_ble_eq_true (by kernel_rfl)) hA1 (fun p hp => hs p (by simpa using hp))) (fun _ _ => rfl) (by simp) hg (ok_one (by kernel_rfl) rfl (okWide_bool_mk Try.underlying4 _))⟩
theorem over : Rows.filterIdentityRow.holds Try.pinned (OpenSpec.ofChange Rows.filterIdentitySpec) :=
  OpenClaim.holds_of_wide 12 Try.f12 rfl rfl rfl rfl rfl rfl rfl ⟨rfl, rfl, rfl, rfl, rfl⟩ rfl rfl rfl rfl rfl (by kernel_rfl) Try.func12 (by kernel_rfl)
    (of_decide_eq_true (by kernel_rfl)) (by unfold Func.isWrapper; first | (rw [if_pos (by decide +kernel)]; kernel_rfl) | (rw [if_neg (by decide +kernel)]; exact ⟨rfl, rfl⟩))
    (fun os started H enc _ => lifted os started H enc)
theorem proved : Rows.FilterIdentitySaid :=
  over
#print axioms proved
end Go.Proofs.Ytadejpmecljjpaa.filterIdentity
