/-
  FilterAreas: at every input the law returns true, and what was there before reads as it did. No conditions.
-/
import Derived.Test.YtpkpcnohnlhjlaaRows
import Derived.WalkKit
import Derived.ProofKit
import Derived.OpenShut
import Derived.Below
import Derived.ChangeSame
import Derived.Test.YtpkpcnohnlhjlaaEngFilO
namespace Go.Proofs.Ytpkpcnohnlhjlaa.filterAreas
open Go Go.ChangeShapes Go.WideShapes Go.ChangeAt Go.RowKit Go.Eng
set_option linter.unusedVariables false
set_option maxRecDepth 100000

theorem own : ownKnob Try.prog.godebug = none := by kernel_rfl
theorem laid : laidOutB Try.prog = true := by kernel_rfl
theorem mapd : mapsRowed Try.prog = true := by kernel_rfl
theorem full : ((List.range Try.prog.types.size).all fun t => match Try.prog.underlying t with | some (.slice e) => decide (0 < Try.prog.cellsOf e) | _ => true) = true := by kernel_rfl
theorem c3 : Try.prog.cellsOf 3 = 1 := by kernel_rfl
theorem c22 : Try.prog.cellsOf 22 = 1 := by kernel_rfl
theorem c23 : Try.prog.cellsOf 23 = 1 := by kernel_rfl

section
variable {H : Type} {enc : TypeId × Value → H} {W : World} {base : Nat}

/-- a slice of ints, as it comes in -/
theorem row_in {t : TypeId} (ht : Try.prog.underlying t = some (.slice 3)) {fuel : Nat} {v : Value} {x : DataW H × List MemPlace} (hv : Cell.okWide Try.prog W .any base t v) (h : DataW.trod enc Try.prog W 0 (fun _ => true) true fuel t [v] = some x) :
    ∃ (o : Option (Nat × Nat × List Int)) (len : Nat), inOk W o ∧ len ≤ ((inK o).getD []).length ∧ v = slcV o len := by
  rcases slice_in ht Try.underlying3 c3 hv h with rfl | ⟨b, s, len, cap, ks, rfl, hl, hk, hr⟩
  · exact ⟨none, 0, (fun b s ks e => nomatch e), Nat.le_refl _, rfl⟩
  · refine ⟨some (b, s, ks), len, fun b' s' ks' e => ?_, (by simp [inK]; omega), (by rw [← hk]; rfl)⟩
    simp only [Option.some.injEq, Prod.mk.injEq] at e
    obtain ⟨rfl, rfl, rfl⟩ := e
    exact hr

theorem rect_in {v : Value} {d : DataW H} {p : List MemPlace} (hv : Value.okWide Try.prog W .any base 27 v) (h : DataW.Trod enc Try.prog W 0 (fun _ => true) true 27 v d p) :
    ∃ x0 y0 x1 y1, v = .agg #[.int .i64 x0, .int .i64 y0, .int .i64 x1, .int .i64 y1] := by
  obtain ⟨cs, rfl, hsz, n, hf⟩ := struct_in (us := [3, 3, 3, 3]) Try.underlying27 (by kernel_rfl) (by kernel_rfl) rfl (fieldsB_ok (by kernel_rfl)) hv h
  obtain ⟨v0, _, e0, _, t0⟩ := hf 0 _ rfl
  obtain ⟨v1, _, e1, _, t1⟩ := hf 1 _ rfl
  obtain ⟨v2, _, e2, _, t2⟩ := hf 2 _ rfl
  obtain ⟨v3, _, e3, _, t3⟩ := hf 3 _ rfl
  obtain ⟨x0, rfl⟩ := int_in Try.underlying3 t0
  obtain ⟨y0, rfl⟩ := int_in Try.underlying3 t1
  obtain ⟨x1, rfl⟩ := int_in Try.underlying3 t2
  obtain ⟨y1, rfl⟩ := int_in Try.underlying3 t3
  refine ⟨x0, y0, x1, y1, ?_⟩
  obtain ⟨l⟩ := cs
  match l, hsz with
  | [a, b, c, d], _ =>
    cases e0; cases e1; cases e2; cases e3
    rfl

theorem filter_in {v : Value} {d : DataW H} {p : List MemPlace} (hv : Value.okWide Try.prog W .any base 25 v) (h : DataW.Trod enc Try.prog W 0 (fun _ => true) true 25 v d p) :
    ∃ k r dv vl v2 v5, v = .agg #[.int .i64 k, .int .i64 r, v2, .int .i64 dv, .int .i64 vl, v5] ∧
      (∃ (o : Option (Nat × Nat × List Int)) (len : Nat), inOk W o ∧ len ≤ ((inK o).getD []).length ∧ v2 = slcV o len) ∧
      (∃ (o : Option (Nat × Nat × List Int)) (len : Nat), inOk W o ∧ len ≤ ((inK o).getD []).length ∧ v5 = slcV o len) := by
  obtain ⟨cs, rfl, hsz, n, hf⟩ := struct_in (us := [3, 3, 22, 3, 3, 23]) Try.underlying25 (by kernel_rfl) (by kernel_rfl) rfl (fieldsB_ok (by kernel_rfl)) hv h
  obtain ⟨v0, _, e0, _, t0⟩ := hf 0 _ rfl
  obtain ⟨v1, _, e1, _, t1⟩ := hf 1 _ rfl
  obtain ⟨v2, _, e2, o2, t2⟩ := hf 2 _ rfl
  obtain ⟨v3, _, e3, _, t3⟩ := hf 3 _ rfl
  obtain ⟨v4, _, e4, _, t4⟩ := hf 4 _ rfl
  obtain ⟨v5, _, e5, o5, t5⟩ := hf 5 _ rfl
  obtain ⟨x0, rfl⟩ := int_in Try.underlying3 t0
  obtain ⟨x1, rfl⟩ := int_in Try.underlying3 t1
  obtain ⟨x3, rfl⟩ := int_in Try.underlying3 t3
  obtain ⟨x4, rfl⟩ := int_in Try.underlying3 t4
  refine ⟨x0, x1, x3, x4, v2, v5, ?_, row_in Try.underlying22 o2 t2, row_in Try.underlying23 o5 t5⟩
  obtain ⟨l⟩ := cs
  match l, hsz with
  | [a, b, c, d, e, f], _ =>
    cases e0; cases e1; cases e2; cases e3; cases e4; cases e5
    rfl
end

/-! ### the walk -/
def noneB (o : Option (Nat × Nat × List Int)) : Bool := o.isNone
def rowOf' (o : Option (Nat × Nat × List Int)) : List Int := (inK o).getD []
theorem rO_eq (o : Option (Nat × Nat × List Int)) : rO (noneB o) (rowOf' o) = inK o := by cases o <;> rfl
theorem slN_rel {E : Env} {w : World} {m len z : Nat} {o : Option (Nat × Nat × List Int)} (hE : E.ι m = inH o) (hβ : E.β = cellsSize w) (h : inOk w o) (hl : len ≤ (rowOf' o).length) :
    vrel E (slN (noneB o) m len (rowOf' o).length z) (slcV o len) := by
  cases o with
  | none => exact ⟨rfl, rfl, rfl⟩
  | some y =>
    obtain ⟨b, s, ks⟩ := y
    exact slc_rel hE hβ (h b s ks rfl) hl

theorem walk (k r dv vl x0 y0 x1 y1 : Int) (oK oC oS : Option (Nat × Nat × List Int)) (lK lC lS : Nat) (W : World) (hK : inOk W oK) (hC : inOk W oC) (hS : inOk W oS) (h1 : lK ≤ (rowOf' oK).length) (h2 : lC ≤ (rowOf' oC).length) (h3 : lS ≤ (rowOf' oS).length) (vK vC vS : Value)
    (e1 : vK = slcV oK lK) (e2 : vC = slcV oC lC) (e3 : vS = slcV oS lS) :
    Calls Try.prog 3 #[.agg #[.int .i64 k, .int .i64 r, vK, .int .i64 dv, .int .i64 vl, vC], vS, .agg #[.int .i64 x0, .int .i64 y0, .int .i64 x1, .int .i64 y1]] W fun e w' => e = .returned (.bool true) ∧ Below W.heap.size W w' := by
  obtain ⟨g, hd, hro⟩ := env3_ok hK hC hS
  rw [← rO_eq oK, ← rO_eq oC, ← rO_eq oS] at g hro
  refine calls3 k r dv vl lK (rowOf' oK) lC (rowOf' oC) lS (rowOf' oS) x0 y0 x1 y1 (noneB oK) (noneB oC) (noneB oS) (rowOf' oK).length 0 (rowOf' oC).length 0 (rowOf' oS).length 0 (args' := [.agg #[.int .i64 k, .int .i64 r, vK, .int .i64 dv, .int .i64 vl, vC], vS, .agg #[.int .i64 x0, .int .i64 y0, .int .i64 x1, .int .i64 y1]]) g hd hro ?_ (fun _ => ⟨h1, h1⟩) (fun _ => ⟨h2, h2⟩) (fun _ => ⟨h3, h3⟩)
  have rK : vrel (env3 W oK oC oS) (slN (noneB oK) 0 lK (rowOf' oK).length 0) vK := by rw [e1]; exact slN_rel (E := env3 W oK oC oS) rfl rfl hK h1
  have rC : vrel (env3 W oK oC oS) (slN (noneB oC) 1 lC (rowOf' oC).length 0) vC := by rw [e2]; exact slN_rel (E := env3 W oK oC oS) rfl rfl hC h2
  have rS : vrel (env3 W oK oC oS) (slN (noneB oS) 2 lS (rowOf' oS).length 0) vS := by rw [e3]; exact slN_rel (E := env3 W oK oC oS) rfl rfl hS h3
  exact vcons (vagg (vcons vint (vcons vint (vcons rK (vcons vint (vcons vint (vcons rC vnil))))))) (vcons rS (vcons (vagg (vcons vint (vcons vint (vcons vint (vcons vint vnil))))) vnil))

/-! ### the close, by the guide's own lemma -/
section
variable {H : Type} {enc : TypeId × Value → H} {P : Program}
theorem post_of_below {f : Func} {s : ChangeSpec} {apart fresh handsOn again : Bool} {W W' : World} {args : Array Value} {v : Value} {ds gs : List (DataW H)} {before pa pv : List MemPlace}
    (hW : DataW.Whole enc P f.params.toList s.vars apart W args.toList ds gs before)
    (hres : ∀ (b : Nat) (sp : Nat → Bool) (hd : Bool), DataW.TrodAll enc P W' b sp hd f.resultTypes.toList (v.resultList f.resultTypes.size) (s.fn H (ds ++ gs)).results [])
    (hargs : ∀ sp : Nat → Bool, (∀ p ∈ before, sp p.block = true) → DataW.TrodAll enc P W' 0 sp true f.params.toList args.toList (s.fn H (ds ++ gs)).args pa)
    (hvars : ∀ sp : Nat → Bool, (∀ p ∈ before, sp p.block = true) → DataW.TrodVars enc P W' sp s.vars (s.fn H (ds ++ gs)).vars pv)
    (hps : before = pa ++ pv) (hb : Below W.heap.size W W')
    (hok : ∀ (j : Nat) (t : TypeId) (r : Value), f.resultTypes[j]? = some t → (v.resultList f.resultTypes.size)[j]? = some r → Value.okWide P W' .any 0 t r) :
    s.post enc P f apart fresh handsOn again W args v W' := by
  have hlt : ∀ p ∈ before, p.block < W.heap.size := fun p hp => hW.lt p hp
  have hold : ∀ p ∈ before, (fun b => decide (b < W.heap.size)) p.block = true := fun p hp => by simpa using hlt p hp
  refine ⟨ds, gs, before, [], pa, pv, hW, hres _ _ _, hargs _ hold, hvars _ hold, World.keptBut_mono (fun p hp => ⟨hp, ?_⟩) (hb.frame (· ∈ before)), fun _ => ?_⟩
  · rw [hps, List.mem_append] at hp
    exact Or.inr hp
  · obtain ⟨_, _, _, _, _, hz, hn⟩ := hW
    refine ⟨hok, _, _, ([] ++ pa) ++ pv, ⟨[] ++ pa, pv, trodAll_append (hargs _ (fun _ _ => rfl)) (hres _ _ _), hvars _ (fun _ _ => rfl), rfl, ?_, ?_⟩, ?_⟩
    · intro b off hp
      have hin : MemPlace.cell b off ∈ before := by rw [hps]; simpa using hp
      rw [hb.frozen (hlt _ hin)]
      exact hz b off hin
    · intro ha
      have := hn ha
      rw [hps] at this
      simpa using this
    · intro p hp _
      rw [hps]
      simpa using hp
end

/-! ### THE ROW's STEP -/
set_option maxRecDepth 100000 in
theorem lifted (os : Os) (started : os.Started) (H : Type) (enc : TypeId × Value → H) :
    ReturnsInHanded {} Try.checked os 3 .any (Rows.filterAreasSpec.pre6 enc Try.prog Try.f3 Rows.filterAreasRow.domain false) (Rows.filterAreasSpec.post enc Try.prog Try.f3 false true false false) := by
  refine returnsInHanded_of_change (C := Try.checked) own started (by kernel_rfl) Try.func3
    (ChangeSpec.witness6 (enc := enc) (C := Try.checked) false ⟨#[], #[.agg #[.int .i64 0, .int .i64 0, .slice none 0 0, .int .i64 0, .int .i64 0, .slice none 0 0], .slice none 0 0, .agg #[.int .i64 0, .int .i64 0, .int .i64 0, .int .i64 0]], []⟩ 8 (by kernel_rfl) (by kernel_rfl) (by kernel_rfl) (by kernel_rfl)) ?_
  intro W base args ds gs before hval0 hW hcnd _
  have hval : ∀ (j : Nat) t v, Try.f3.params[j]? = some t → args[j]? = some v → Value.okWide Try.prog W .any base t v := hval0
  have hW' := hW
  obtain ⟨p, q, hA0, hV, rfl, hfz, hnd⟩ := hW
  have hA : DataW.TrodAll enc Try.prog W 0 (fun _ => true) true Try.f3.params.toList args.toList ds p := hA0
  have hA1 := hA
  rw [Try.params3] at hA hval
  obtain ⟨v0, vs0, d0, ds0, p0, q0, hargs, rfl, rfl, h0, r0⟩ := trodAll_cons hA
  obtain ⟨v1, vs1, d1, ds1, p1, q1, rfl, rfl, rfl, h1, r1⟩ := trodAll_cons r0
  obtain ⟨v2, vs2, d2, ds2, p2, q2, rfl, rfl, rfl, h2, r2⟩ := trodAll_cons r1
  obtain ⟨rfl, rfl, rfl⟩ := trodAll_nil r2
  obtain rfl : args = #[v0, v1, v2] := by cases args; simp_all
  obtain ⟨rfl, rfl⟩ := trodVars_none hV
  obtain ⟨k, r, dv, vl, vK, vC, rfl, ⟨oK, lK, hK, hlK, eK⟩, ⟨oC, lC, hC, hlC, eC⟩⟩ := filter_in (hval 0 25 v0 rfl rfl) h0
  obtain ⟨n1, h1'⟩ := h1
  have hv1 : Cell.okWide Try.prog W .any base 22 v1 := by
    have := hval 1 22 v1 rfl rfl
    simpa only [Value.okWide, Try.underlying22] using this
  have hc1 : v1.cells.toList = [v1] := slice_cells Try.underlying22 hv1
  rw [hc1] at h1'
  obtain ⟨oS, lS, hS, hlS, eS⟩ := row_in Try.underlying22 hv1 h1'
  obtain ⟨x0, y0, x1, y1, rfl⟩ := rect_in (hval 2 27 v2 rfl rfl) h2
  clear hA0 hval0
  refine (walk k r dv vl x0 y0 x1 y1 oK oC oS lK lC lS W hK hC hS hlK hlC hlS vK vC v1 eK eC eS).mono fun e W' ⟨he, hg⟩ => ?_
  subst he
  exact ⟨_, rfl, post_of_below (pv := []) hW' (fun _ _ _ => (trodAll_cons_mk (shut_bool Try.underlying4 _) trodAll_mk0)) (fun sp hs => args_stay laid mapd full hg (by rw [Try.params3]; intro t ht; simp at ht; rcases ht with rfl | rfl | rfl <;> exact Nat.le_of_ble_eq_true (by kernel_rfl)) hA1 (fun p hp => hs p (by simpa using hp))) (fun _ _ => rfl) (by simp) hg (ok_one (by kernel_rfl) rfl (okWide_bool_mk Try.underlying4 _))⟩

theorem over : Rows.filterAreasRow.holds Try.pinned (OpenSpec.ofChange Rows.filterAreasSpec) :=
  OpenClaim.holds_of_wide 3 Try.f3 rfl rfl rfl rfl rfl rfl rfl ⟨rfl, rfl, rfl, rfl, rfl⟩ rfl rfl rfl rfl rfl (by kernel_rfl) Try.func3 (by kernel_rfl)
    (of_decide_eq_true (by kernel_rfl)) (by unfold Func.isWrapper; first | (rw [if_pos (by decide +kernel)]; kernel_rfl) | (rw [if_neg (by decide +kernel)]; exact ⟨rfl, rfl⟩))
    (fun os started H enc _ => lifted os started H enc)

/-- ████ THE STATEMENT ████ -/
theorem proved : Rows.FilterAreasSaid :=
  over
#print axioms proved
end Go.Proofs.Ytpkpcnohnlhjlaa.filterAreas
