/- Filter laws anew, part ZP: what comes in. No conditions. -/
import Derived.Test.YtadejpmecljjpaaRows
import Derived.WalkKit
import Derived.ProofKit
import Derived.OpenShut
import Derived.Below
import Derived.ChangeSame
import Derived.Test.YtadejpmecljjpaaEngEight
import Derived.Test.YtadejpmecljjpaaFlTwelve
set_option linter.unusedVariables false
set_option linter.unusedSimpArgs false
set_option linter.unusedSectionVars false
namespace Go.Proofs.Ytadejpmecljjpaa
open Go Go.ChangeShapes Go.WideShapes Go.ChangeAt Go.RowKit Go.Eng
set_option linter.unusedVariables false
set_option maxRecDepth 100000
theorem own : ownKnob Try.prog.godebug = none := by kernel_rfl
theorem laid : laidOutB Try.prog = true := by kernel_rfl
theorem mapd : mapsRowed Try.prog = true := by kernel_rfl
theorem full : ((List.range Try.prog.types.size).all fun t => match Try.prog.underlying t with | some (.slice e) => decide (0 < Try.prog.cellsOf e) | _ => true) = true := by kernel_rfl
theorem cells3 : Try.prog.cellsOf 3 = 1 := by kernel_rfl
section
variable {H : Type} {enc : TypeId × Value → H} {W : World} {base : Nat}
theorem row_in {t : TypeId} (ht : Try.prog.underlying t = some (.slice 3)) {fuel : Nat} {v : Value} {x : DataW H × List MemPlace} (hv : Cell.okWide Try.prog W .any base t v) (h : DataW.trod enc Try.prog W 0 (fun _ => true) true fuel t [v] = some x) :
    ∃ (o : Option (Nat × Nat × List Int)) (len : Nat), inOk W o ∧ len ≤ ((inK o).getD []).length ∧ v = slcV o len := by
  rcases slice_in ht Try.underlying3 cells3 hv h with rfl | ⟨b, s, len, cap, ks, rfl, hl, hk, hr⟩
  · exact ⟨none, 0, (fun b s ks e => nomatch e), Nat.le_refl _, rfl⟩
  · refine ⟨some (b, s, ks), len, fun b' s' ks' e => ?_, (by simp [inK]; omega), (by rw [← hk]; rfl)⟩
    simp only [Option.some.injEq, Prod.mk.injEq] at e
    obtain ⟨rfl, rfl, rfl⟩ := e
    exact hr
theorem rect_in {v : Value} {d : DataW H} {p : List MemPlace} (hv : Value.okWide Try.prog W .any base 30 v) (h : DataW.Trod enc Try.prog W 0 (fun _ => true) true 30 v d p) :
    ∃ x0 y0 x1 y1, v = .agg #[.int .i64 x0, .int .i64 y0, .int .i64 x1, .int .i64 y1] := by
  obtain ⟨cs, rfl, hsz, n, hf⟩ := struct_in (us := [3, 3, 3, 3]) Try.underlying30 (by kernel_rfl) (by kernel_rfl) rfl (fieldsB_ok (by kernel_rfl)) hv h
  obtain ⟨v0, _, e0, _, t0⟩ := hf 0 _ rfl
  obtain ⟨v1, _, e1, _, t1⟩ := hf 1 _ rfl
  obtain ⟨v2, _, e2, _, t2⟩ := hf 2 _ rfl
  obtain ⟨v3, _, e3, _, t3⟩ := hf 3 _ rfl
  obtain ⟨x0, rfl⟩ := int_in Try.underlying3 t0
  obtain ⟨y0, rfl⟩ := int_in Try.underlying3 t1
  obtain ⟨x1, rfl⟩ := int_in Try.underlying3 t2
  obtain ⟨y1, rfl⟩ := int_in Try.underlying3 t3
  refine ⟨x0, y0, x1, y1, ?_⟩
  obtain ⟨l⟩ := cs
  match l, hsz with
  | [a, b, c, d], _ =>
    cases e0; cases e1; cases e2; cases e3
    rfl
theorem filter_in {v : Value} {d : DataW H} {p : List MemPlace} (hv : Value.okWide Try.prog W .any base 28 v) (h : DataW.Trod enc Try.prog W 0 (fun _ => true) true 28 v d p) :
    ∃ k r dv vl v2 v5, v = .agg #[.int .i64 k, .int .i64 r, v2, .int .i64 dv, .int .i64 vl, v5] ∧
      (∃ (o : Option (Nat × Nat × List Int)) (len : Nat), inOk W o ∧ len ≤ ((inK o).getD []).length ∧ v2 = slcV o len) ∧
      (∃ (o : Option (Nat × Nat × List Int)) (len : Nat), inOk W o ∧ len ≤ ((inK o).getD []).length ∧ v5 = slcV o len) := by
  obtain ⟨cs, rfl, hsz, n, hf⟩ := struct_in (us := [3, 3, 22, 3, 3, 26]) Try.underlying28 (by kernel_rfl) (by kernel_rfl) rfl (fieldsB_ok (by kernel_rfl)) hv h
  obtain ⟨v0, _, e0, _, t0⟩ := hf 0 _ rfl
  obtain ⟨v1, _, e1, _, t1⟩ := hf 1 _ rfl
  obtain ⟨v2, _, e2, o2, t2⟩ := hf 2 _ rfl
  obtain ⟨v3, _, e3, _, t3⟩ := hf 3 _ rfl
  obtain ⟨v4, _, e4, _, t4⟩ := hf 4 _ rfl
  obtain ⟨v5, _, e5, o5, t5⟩ := hf 5 _ rfl
  obtain ⟨x0, rfl⟩ := int_in Try.underlying3 t0
  obtain ⟨x1, rfl⟩ := int_in Try.underlying3 t1
  obtain ⟨x3, rfl⟩ := int_in Try.underlying3 t3
  obtain ⟨x4, rfl⟩ := int_in Try.underlying3 t4
  refine ⟨x0, x1, x3, x4, v2, v5, ?_, row_in Try.underlying22 o2 t2, row_in Try.underlying26 o5 t5⟩
  obtain ⟨l⟩ := cs
  match l, hsz with
  | [a, b, c, d, e, f], _ =>
    cases e0; cases e1; cases e2; cases e3; cases e4; cases e5
    rfl
end
def noneB (o : RowO) : Bool := o.isNone
def rowOf' (o : RowO) : List Int := (inK o).getD []
theorem rwI_eq (o : RowO) : rwI (noneB o) (rowOf' o) = (match o with | some (_, _, ks) => some (IntKind.i64, ks) | none => none) := by
  cases o with
  | none => rfl
  | some y => rfl
theorem slA_rel {E : Env} {w : World} {m len : Nat} {o : RowO} (hE : E.ι m = inH o) (hβ : E.β = cellsSize w) (h : inOk w o) (hl : len ≤ (rowOf' o).length) :
    vrel E (slA (noneB o) m len (rowOf' o).length) (slcV o len) := by
  cases o with
  | none => exact ⟨rfl, rfl, rfl⟩
  | some y =>
    obtain ⟨b, s, ks⟩ := y
    exact slc_rel hE hβ (h b s ks rfl) hl
theorem ln_le {o : RowO} {len : Nat} (h : len ≤ (rowOf' o).length) : ln (noneB o) len ≤ (rw' (noneB o) (rowOf' o)).length := by
  cases o with
  | none => exact Nat.le_refl _
  | some y => exact h
theorem ask_in {W : World} {H : Type} {enc : TypeId × Value → H} {base : Nat} {v : Value} {d : DataW H} {p : List MemPlace} (hv : Value.okWide Try.prog W .any base 25 v) (h : DataW.Trod enc Try.prog W 0 (fun _ => true) true 25 v d p) :
    ∃ vF vM q0 q1 q2 q3, v = .agg #[vF, vM, .int .i64 q0, .int .i64 q1, .int .i64 q2, .int .i64 q3] ∧
      (∃ (o : Option (Nat × Nat × List Int)) (len : Nat), inOk W o ∧ len ≤ ((inK o).getD []).length ∧ vF = slcV o len) ∧
      (∃ (o : Option (Nat × Nat × List Int)) (len : Nat), inOk W o ∧ len ≤ ((inK o).getD []).length ∧ vM = slcV o len) := by
  obtain ⟨cs, rfl, hsz, hok, n, hf⟩ := struct_inW (us := [22, 22, 3, 3, 3, 3]) Try.underlying25 (by kernel_rfl) (by kernel_rfl) rfl hv h
  obtain ⟨l⟩ := cs
  match l, hsz with
  | [x0, x1, x2, x3, x4, x5], _ =>
    obtain ⟨y0, t0⟩ := hf 0 _ rfl
    obtain ⟨y1, t1⟩ := hf 1 _ rfl
    obtain ⟨y2, t2⟩ := hf 2 _ rfl
    have c22 : Try.prog.cellsOf 22 = 1 := by kernel_rfl
    have c23 : Try.prog.cellsOf 23 = 4 := by kernel_rfl
    change DataW.trod enc Try.prog W 0 (fun _ => true) true n 22 (List.take (Try.prog.cellsOf 22) (List.drop 0 [x0, x1, x2, x3, x4, x5])) = some y0 at t0
    change DataW.trod enc Try.prog W 0 (fun _ => true) true n 22 (List.take (Try.prog.cellsOf 22) (List.drop 1 [x0, x1, x2, x3, x4, x5])) = some y1 at t1
    change DataW.trod enc Try.prog W 0 (fun _ => true) true n 23 (List.take (Try.prog.cellsOf 23) (List.drop 2 [x0, x1, x2, x3, x4, x5])) = some y2 at t2
    rw [c22] at t0 t1
    rw [c23] at t2
    obtain ⟨q0, h0⟩ := array_ints Try.underlying23 Try.underlying3 (by kernel_rfl) t2 0 (by omega) (by show 0 < 4; omega)
    obtain ⟨q1, h1⟩ := array_ints Try.underlying23 Try.underlying3 (by kernel_rfl) t2 1 (by omega) (by show 1 < 4; omega)
    obtain ⟨q2, h2⟩ := array_ints Try.underlying23 Try.underlying3 (by kernel_rfl) t2 2 (by omega) (by show 2 < 4; omega)
    obtain ⟨q3, h3⟩ := array_ints Try.underlying23 Try.underlying3 (by kernel_rfl) t2 3 (by omega) (by show 3 < 4; omega)
    obtain rfl : x2 = Value.int .i64 q0 := Option.some.inj h0
    obtain rfl : x3 = Value.int .i64 q1 := Option.some.inj h1
    obtain rfl : x4 = Value.int .i64 q2 := Option.some.inj h2
    obtain rfl : x5 = Value.int .i64 q3 := Option.some.inj h3
    exact ⟨x0, x1, q0, q1, q2, q3, rfl, row_in Try.underlying22 (hok 0 22 x0 rfl rfl) t0, row_in Try.underlying22 (hok 1 22 x1 rfl rfl) t1⟩
section
variable {H : Type} {enc : TypeId × Value → H} {P : Program}
theorem post_of_below {f : Func} {s : ChangeSpec} {apart fresh handsOn again : Bool} {W W' : World} {args : Array Value} {v : Value} {ds gs : List (DataW H)} {before pa pv : List MemPlace}
    (hW : DataW.Whole enc P f.params.toList s.vars apart W args.toList ds gs before)
    (hres : ∀ (b : Nat) (sp : Nat → Bool) (hd : Bool), DataW.TrodAll enc P W' b sp hd f.resultTypes.toList (v.resultList f.resultTypes.size) (s.fn H (ds ++ gs)).results [])
    (hargs : ∀ sp : Nat → Bool, (∀ p ∈ before, sp p.block = true) → DataW.TrodAll enc P W' 0 sp true f.params.toList args.toList (s.fn H (ds ++ gs)).args pa)
    (hvars : ∀ sp : Nat → Bool, (∀ p ∈ before, sp p.block = true) → DataW.TrodVars enc P W' sp s.vars (s.fn H (ds ++ gs)).vars pv)
    (hps : before = pa ++ pv) (hb : Below W.heap.size W W')
    (hok : ∀ (j : Nat) (t : TypeId) (r : Value), f.resultTypes[j]? = some t → (v.resultList f.resultTypes.size)[j]? = some r → Value.okWide P W' .any 0 t r) :
    s.post enc P f apart fresh handsOn again W args v W' := by
  have hlt : ∀ p ∈ before, p.block < W.heap.size := fun p hp => hW.lt p hp
  have hold : ∀ p ∈ before, (fun b => decide (b < W.heap.size)) p.block = true := fun p hp => by simpa using hlt p hp
  refine ⟨ds, gs, before, [], pa, pv, hW, hres _ _ _, hargs _ hold, hvars _ hold, World.keptBut_mono (fun p hp => ⟨hp, ?_⟩) (hb.frame (· ∈ before)), fun _ => ?_⟩
  · rw [hps, List.mem_append] at hp
    exact Or.inr hp
  · obtain ⟨_, _, _, _, _, hz, hn⟩ := hW
    refine ⟨hok, _, _, ([] ++ pa) ++ pv, ⟨[] ++ pa, pv, trodAll_append (hargs _ (fun _ _ => rfl)) (hres _ _ _), hvars _ (fun _ _ => rfl), rfl, ?_, ?_⟩, ?_⟩
    · intro b off hp
      have hin : MemPlace.cell b off ∈ before := by rw [hps]; simpa using hp
      rw [hb.frozen (hlt _ hin)]
      exact hz b off hin
    · intro ha
      have := hn ha
      rw [hps] at this
      simpa using this
    · intro p hp _
      rw [hps]
      simpa using hp
end
end Go.Proofs.Ytadejpmecljjpaa
