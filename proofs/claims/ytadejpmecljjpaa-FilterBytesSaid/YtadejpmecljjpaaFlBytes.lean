/-
  FilterBytes: at every input the law returns true, and what was there before reads as it did. No conditions.
-/
import Derived.Test.YtadejpmecljjpaaFlByE
import Derived.Test.YtadejpmecljjpaaFlZT
import Derived.Test.YtadejpmecljjpaaFlZR
set_option linter.unusedVariables false
set_option linter.unusedSimpArgs false
set_option linter.unusedSectionVars false
namespace Go.Proofs.Ytadejpmecljjpaa.filterBytes
open Go Go.ChangeShapes Go.WideShapes Go.ChangeAt Go.RowKit Go.Eng
set_option linter.unusedVariables false
set_option maxRecDepth 100000
theorem ln_le2 (n : Bool) {a b : Nat} (h : a ≤ b) : ln n a ≤ ln n b := by cases n with | true => exact Nat.le_refl _ | false => exact h
theorem walk (fk fr fd fv gk gr gd gv q0 q1 q2 q3 : Int) (oK oC oD oE oF oM : RowO) (lK lC lD lE lF lM : Nat) (W : World) (hK : inOk W oK) (hC : inOk W oC) (hD : inOk W oD) (hE : inOk W oE) (hF : inOk W oF) (hM : inOk W oM) (hlK : lK ≤ (rowOf' oK).length) (hlC : lC ≤ (rowOf' oC).length) (hlD : lD ≤ (rowOf' oD).length) (hlE : lE ≤ (rowOf' oE).length) (hlF : lF ≤ (rowOf' oF).length) (hlM : lM ≤ (rowOf' oM).length)  (zf : i64R fk ∧ i64R fr ∧ i64R fd ∧ i64R fv) (yK : ∀ z ∈ rowOf' oK, i64R z) (yC : ∀ z ∈ rowOf' oC, i64R z) (zg : i64R gk ∧ i64R gr ∧ i64R gd ∧ i64R gv) (yD : ∀ z ∈ rowOf' oD, i64R z) (yE : ∀ z ∈ rowOf' oE, i64R z) (vK vC vD vE vF vM : Value)
    (eK : vK = slcV oK lK) (eC : vC = slcV oC lC) (eD : vD = slcV oD lD) (eE : vE = slcV oE lE) (eF : vF = slcV oF lF) (eM : vM = slcV oM lM) :
    Calls Try.prog 10 #[.agg #[.int .i64 fk, .int .i64 fr, vK, .int .i64 fd, .int .i64 fv, vC], .agg #[.int .i64 gk, .int .i64 gr, vD, .int .i64 gd, .int .i64 gv, vE], .agg #[vF, vM, .int .i64 q0, .int .i64 q1, .int .i64 q2, .int .i64 q3]] W fun e w' => e = .returned (.bool true) ∧ Below W.heap.size W w' := by
  obtain ⟨g, hd, hro⟩ := envN_ok (w := W) [oK, oC, oD, oE, oF, oM] (Nat.le_of_ble_eq_true rfl) (by
    simp only [List.mem_cons, List.not_mem_nil, or_false]
    rintro x (rfl | rfl | rfl | rfl | rfl | rfl) <;> assumption)
  have hrows : rowsOf [oK, oC, oD, oE, oF, oM] = [rwI (noneB oK) (rowOf' oK), rwI (noneB oC) (rowOf' oC), rwI (noneB oD) (rowOf' oD), rwI (noneB oE) (rowOf' oE), rwI (noneB oF) (rowOf' oF), rwI (noneB oM) (rowOf' oM)] := by
    rw [rwI_eq, rwI_eq, rwI_eq, rwI_eq, rwI_eq, rwI_eq]; rfl
  rw [hrows] at g hro
  have llK := ln_le hlK
  have llC := ln_le hlC
  have llD := ln_le hlD
  have llE := ln_le hlE
  have llF := ln_le hlF
  have llM := ln_le hlM
  have hl60 : min 60 (ln (noneB oF) lF) ≤ (rw' (noneB oF) (rowOf' oF)).length := Nat.le_trans (Nat.min_le_right _ _) llF
  obtain ⟨md, hmd⟩ := md_all (Nat.min_le_left 60 (ln (noneB oF) lF)) hl60
  have hT := tgBy (noneB oK) (noneB oC) (noneB oD) (noneB oE) (noneB oF) (noneB oM) (rowOf' oK) (rowOf' oC) (rowOf' oD) (rowOf' oE) (rowOf' oF) (rowOf' oM) md lK (rowOf' oK).length lC (rowOf' oC).length lD (rowOf' oD).length lE (rowOf' oE).length lF (rowOf' oF).length lM (rowOf' oM).length fk fr fd fv gk gr gd gv q0 q1 q2 q3 llK llC llD llE llM (ln_le2 _ hlK) (ln_le2 _ hlC) (ln_le2 _ hlD) (ln_le2 _ hlE) (ln_le2 _ hlF) zf zg (rng_rw _ yK) (rng_rw _ yC) (rng_rw _ yD) (rng_rw _ yE) hmd
  have rK : vrel (envN W [oK, oC, oD, oE, oF, oM]) (slA (noneB oK) 0 lK (rowOf' oK).length) vK := by rw [eK]; exact slA_rel (E := envN W [oK, oC, oD, oE, oF, oM]) rfl rfl hK hlK
  have rC : vrel (envN W [oK, oC, oD, oE, oF, oM]) (slA (noneB oC) 1 lC (rowOf' oC).length) vC := by rw [eC]; exact slA_rel (E := envN W [oK, oC, oD, oE, oF, oM]) rfl rfl hC hlC
  have rD : vrel (envN W [oK, oC, oD, oE, oF, oM]) (slA (noneB oD) 2 lD (rowOf' oD).length) vD := by rw [eD]; exact slA_rel (E := envN W [oK, oC, oD, oE, oF, oM]) rfl rfl hD hlD
  have rE : vrel (envN W [oK, oC, oD, oE, oF, oM]) (slA (noneB oE) 3 lE (rowOf' oE).length) vE := by rw [eE]; exact slA_rel (E := envN W [oK, oC, oD, oE, oF, oM]) rfl rfl hE hlE
  have rF : vrel (envN W [oK, oC, oD, oE, oF, oM]) (slA (noneB oF) 4 lF (rowOf' oF).length) vF := by rw [eF]; exact slA_rel (E := envN W [oK, oC, oD, oE, oF, oM]) rfl rfl hF hlF
  have rM : vrel (envN W [oK, oC, oD, oE, oF, oM]) (slA (noneB oM) 5 lM (rowOf' oM).length) vM := by rw [eM]; exact slA_rel (E := envN W [oK, oC, oD, oE, oF, oM]) rfl rfl hM hlM
  refine (calls_pure mo po Try.func10 (code := cdBy) (by kernel_rfl) (by kernel_rfl) hT (args' := [.agg #[.int .i64 fk, .int .i64 fr, vK, .int .i64 fd, .int .i64 fv, vC], .agg #[.int .i64 gk, .int .i64 gr, vD, .int .i64 gd, .int .i64 gv, vE], .agg #[vF, vM, .int .i64 q0, .int .i64 q1, .int .i64 q2, .int .i64 q3]]) (E := envN W [oK, oC, oD, oE, oF, oM]) ?_ g hd hro).mono fun e w' ⟨⟨E2, ho⟩, hb⟩ => ?_
  · exact (vcons (vagg (vcons vint (vcons vint (vcons rK (vcons vint (vcons vint (vcons rC vnil))))))) (vcons (vagg (vcons vint (vcons vint (vcons rD (vcons vint (vcons vint (vcons rE vnil))))))) (vcons (vagg (vcons rF (vcons rM (vcons vint (vcons vint (vcons vint (vcons vint vnil))))))) vnil)))
  · refine ⟨?_, hb⟩
    cases e with
    | returned v' =>
      have ho : vrel E2 (.bool true) v' := ho
      simp only [vrel] at ho
      rw [ho]
    | _ => exact ho.elim
set_option maxRecDepth 100000 in
theorem lifted (os : Os) (started : os.Started) (H : Type) (enc : TypeId × Value → H) :
    ReturnsInHanded {} Try.checked os 10 .any (Rows.filterBytesSpec.pre6 enc Try.prog Try.f10 Rows.filterBytesRow.domain false) (Rows.filterBytesSpec.post enc Try.prog Try.f10 false true false false) := by
  refine returnsInHanded_of_change (C := Try.checked) own started (by kernel_rfl) Try.func10
    (ChangeSpec.witness6 (enc := enc) (C := Try.checked) false ⟨#[], #[.agg #[.int .i64 0, .int .i64 0, .slice none 0 0, .int .i64 0, .int .i64 0, .slice none 0 0], .agg #[.int .i64 0, .int .i64 0, .slice none 0 0, .int .i64 0, .int .i64 0, .slice none 0 0], .agg #[.slice none 0 0, .slice none 0 0, .int .i64 0, .int .i64 0, .int .i64 0, .int .i64 0]], []⟩ 8 (by kernel_rfl) (by kernel_rfl) (by kernel_rfl) (by kernel_rfl)) ?_
  intro W base args ds gs before hval0 hW hcnd _
  have hval : ∀ (j : Nat) t v, Try.f10.params[j]? = some t → args[j]? = some v → Value.okWide Try.prog W .any base t v := hval0
  have hW' := hW
  obtain ⟨p, q, hA0, hV, rfl, hfz, hnd⟩ := hW
  have hA : DataW.TrodAll enc Try.prog W 0 (fun _ => true) true Try.f10.params.toList args.toList ds p := hA0
  have hA1 := hA
  rw [Try.params10] at hA hval
  obtain ⟨v0, vs0, d0, ds0, p0, q0, hargs, rfl, rfl, h0, r0⟩ := trodAll_cons hA
  obtain ⟨v1, vs1, d1, ds1, p1, q1, rfl, rfl, rfl, h1, r1⟩ := trodAll_cons r0
  obtain ⟨v2, vs2, d2, ds2, p2, q2, rfl, rfl, rfl, h2, r2⟩ := trodAll_cons r1
  obtain ⟨rfl, rfl, rfl⟩ := trodAll_nil r2
  obtain rfl : args = #[v0, v1, v2] := by cases args; simp_all
  obtain ⟨rfl, rfl⟩ := trodVars_none hV
  obtain ⟨fk, fr, fd, fv, vK, vC, rfl, zf, ⟨oK, lK, hK, hlK, eK, yK⟩, ⟨oC, lC, hC, hlC, eC, yC⟩⟩ := filter_in2 (hval 0 28 v0 rfl rfl) h0
  obtain ⟨gk, gr, gd, gv, vD, vE, rfl, zg, ⟨oD, lD, hD, hlD, eD, yD⟩, ⟨oE, lE, hE, hlE, eE, yE⟩⟩ := filter_in2 (hval 1 28 v1 rfl rfl) h1
  obtain ⟨vF, vM, q0, q1, q2, q3, rfl, ⟨oF, lF, hF, hlF, eF⟩, ⟨oM, lM, hM, hlM, eM⟩⟩ := ask_in (hval 2 25 v2 rfl rfl) h2
  clear hA0 hval0
  refine (walk fk fr fd fv gk gr gd gv q0 q1 q2 q3 oK oC oD oE oF oM lK lC lD lE lF lM W hK hC hD hE hF hM hlK hlC hlD hlE hlF hlM  zf yK yC zg yD yE vK vC vD vE vF vM eK eC eD eE eF eM).mono fun e W' ⟨he, hg⟩ => ?_
  subst he
  exact ⟨_, rfl, post_of_below (pv := []) hW' (fun _ _ _ => (trodAll_cons_mk (shut_bool Try.underlying4 _) trodAll_mk0)) (fun sp hs => args_stay laid mapd full hg (by rw [Try.params10]; intro t ht; simp at ht; rcases ht with rfl | rfl <;> exact Nat.le_of_ble_eq_true (by kernel_rfl)) hA1 (fun p hp => hs p (by simpa using hp))) (fun _ _ => rfl) (by simp) hg (ok_one (by kernel_rfl) rfl (okWide_bool_mk Try.underlying4 _))⟩
theorem over : Rows.filterBytesRow.holds Try.pinned (OpenSpec.ofChange Rows.filterBytesSpec) :=
  OpenClaim.holds_of_wide 10 Try.f10 rfl rfl rfl rfl rfl rfl rfl ⟨rfl, rfl, rfl, rfl, rfl⟩ rfl rfl rfl rfl rfl (by kernel_rfl) Try.func10 (by kernel_rfl)
    (of_decide_eq_true (by kernel_rfl)) (by unfold Func.isWrapper; first | (rw [if_pos (by decide +kernel)]; kernel_rfl) | (rw [if_neg (by decide +kernel)]; exact ⟨rfl, rfl⟩))
    (fun os started H enc _ => lifted os started H enc)
theorem proved : Rows.FilterBytesSaid :=
  over
#print axioms proved
end Go.Proofs.Ytadejpmecljjpaa.filterBytes
