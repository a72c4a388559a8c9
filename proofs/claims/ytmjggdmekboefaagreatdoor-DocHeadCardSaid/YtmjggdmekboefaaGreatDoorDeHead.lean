/-
  DocHead: at every input the law returns true, and what was there before reads as it did. Conditions: the two tables of the digest hold what the program's text lays (the card ties them).
-/
import Derived.Test.YtmjggdmekboefaaGreatDoorCards
import Derived.Test.YtmjggdmekboefaaGreatDoorTie
import Derived.Test.YtmjggdmekboefaaGreatDoorJointFifteen
import Derived.Test.YtmjggdmekboefaaGreatDoorJointSeventeen
set_option linter.unusedVariables false
set_option linter.unusedSimpArgs false
set_option linter.unusedSectionVars false
namespace Go.Proofs.YtmjggdmekboefaaGreatDoor.docHead
open Go Go.ChangeShapes Go.WideShapes Go.ChangeAt Go.RowKit Go.Eng
open Go.Proofs.YtmjggdmekboefaaGreatDoor.Sha (laidL law_calls handed door_met laidO mapd full post_of_below gS gR)
set_option linter.unusedVariables false
set_option maxRecDepth 100000
theorem array_ints {H : Type} {enc : TypeId × Value → H} {P : Program} {W : World} {t e : TypeId} {len n : Nat} {k : IntKind} {l : List Value} {y : DataW H × List MemPlace} (hs : P.underlying t = some (.array len e)) (he : P.underlying e = some (.int k)) (h1 : P.cellsOf e = 1)
    (h : DataW.trod enc P W 0 (fun _ => true) true n t l = some y) (j : Nat) (hj : j < len) (hl : j < l.length) : ∃ i, l[j]? = some (.int k i) := by
  obtain ⟨xs, n, _, _, _, hxl, hx⟩ := DataW.trod_array hs h
  have hg := hx j hj
  rw [h1] at hg
  have e1 : (l.drop (j * 1)).take 1 = [l[j]] := by
    rw [Nat.mul_one, List.drop_eq_getElem_cons hl, List.take_succ_cons, List.take_zero]
  rw [e1] at hg
  have hxj : xs[j]? = some (xs[j]'(by omega)) := List.getElem?_eq_getElem (by omega)
  obtain ⟨i, hi⟩ := int_in he (hg.trans hxj)
  exact ⟨i, by rw [List.getElem?_eq_getElem hl, hi]⟩
theorem arr_in {H : Type} {enc : TypeId × Value → H} {P : Program} {W : World} {r : Reach} {base : Nat} {t e : TypeId} {len : Nat} {k : IntKind} {v : Value} {d : DataW H} {p : List MemPlace} (hs : P.underlying t = some (.array len e)) (he : P.underlying e = some (.int k)) (h1 : P.cellsOf e = 1)
    (hv : Value.okWide P W r base t v) (hl : P.cellsOf t = len) (h : DataW.Trod enc P W 0 (fun _ => true) true t v d p) : ∃ cs : List Value, v = .agg cs.toArray ∧ cs.length = len ∧ ∀ j, j < len → ∃ i, cs[j]? = some (.int k i) := by
  simp only [Value.okWide, hs] at hv
  obtain ⟨cs, rfl, hsz, _⟩ := hv
  obtain ⟨fuel, h⟩ := h
  obtain ⟨l⟩ := cs
  have hlen : l.length = len := by rw [← hl]; simpa using hsz
  refine ⟨l, rfl, hlen, fun j hj => ?_⟩
  exact array_ints hs he h1 (l := l) h j hj (by omega)
theorem list8 {k : IntKind} {cs : List Value} (h : cs.length = 8) (hi : ∀ j, j < 8 → ∃ i, cs[j]? = some (.int k i)) : ∃ a b c d e f g i, cs = [.int k a, .int k b, .int k c, .int k d, .int k e, .int k f, .int k g, .int k i] := by
  match cs, h with
  | [x0, x1, x2, x3, x4, x5, x6, x7], _ =>
    obtain ⟨a, h0⟩ := hi 0 (by decide)
    obtain ⟨b, h1⟩ := hi 1 (by decide)
    obtain ⟨c, h2⟩ := hi 2 (by decide)
    obtain ⟨d, h3⟩ := hi 3 (by decide)
    obtain ⟨e, h4⟩ := hi 4 (by decide)
    obtain ⟨f, h5⟩ := hi 5 (by decide)
    obtain ⟨g, h6⟩ := hi 6 (by decide)
    obtain ⟨i, h7⟩ := hi 7 (by decide)
    simp only [List.getElem?_cons_zero, List.getElem?_cons_succ, Option.some.injEq] at h0 h1 h2 h3 h4 h5 h6 h7
    exact ⟨a, b, c, d, e, f, g, i, by rw [h0, h1, h2, h3, h4, h5, h6, h7]⟩
theorem struct_in {P : Program} {W : World} {r : Reach} {base : Nat} {t : TypeId} {v : Value} {fs : Array Field} (hs : P.underlying t = some (.struct fs)) (hv : Value.okWide P W r base t v) : ∃ cs : List Value, v = .agg cs.toArray := by
  simp only [Value.okWide, hs] at hv
  obtain ⟨cs, rfl, _⟩ := hv
  exact ⟨cs.toList, by simp⟩
theorem walk (raw : Lay) (cs : List Value) (a b c d e f g i n : Int) (W : World) (hw : WG W) (hl : laidMetH Tryz.prog laidL W) (hr : drels (phiW W) raw.ds cs) :
    Calls Tryz.prog 4 #[.agg cs.toArray, .agg #[.int .i64 a, .int .i64 b, .int .i64 c, .int .i64 d, .int .i64 e, .int .i64 f, .int .i64 g, .int .i64 i], .int .i64 n] W fun e w' => e = .returned (.bool true) ∧ Below W.heap.size W w' :=
  law_calls (ds := [.agg raw.ds, .agg [.int .i64 a, .int .i64 b, .int .i64 c, .int .i64 d, .int .i64 e, .int .i64 f, .int .i64 g, .int .i64 i], .int .i64 n]) (vs := [.agg cs.toArray, .agg #[.int .i64 a, .int .i64 b, .int .i64 c, .int .i64 d, .int .i64 e, .int .i64 f, .int .i64 g, .int .i64 i], .int .i64 n]) Tryz.func4 (code := cdLh) (by kernel_rfl) (by kernel_rfl) (lhT raw ⟨a, b, c, d, e, f, g, i⟩ n) hw hl
    (vcons (vagg (drels_toV (E := Sha.EW W) _ _ hr)) (vcons (vagg (vcons vint (vcons vint (vcons vint (vcons vint (vcons vint (vcons vint (vcons vint (vcons vint vnil))))))))) (vcons vint vnil)))
theorem lifted (os : Os) (started : os.Started) (H : Type) (enc : TypeId × Value → H) :
    ReturnsInHanded {} Tryz.checked os 4 .any (fun w args => (Rows.docHeadSpec.pre enc Tryz.prog Tryz.f4 [] false w args ∧ laidMetH Tryz.prog laidL w) ∧ sizedMet enc Tryz.prog Tryz.f4 (OpenSpec.ofChange Rows.docHeadSpec) false w args) (Rows.docHeadSpec.post enc Tryz.prog Tryz.f4 false true false false) := by
  refine handed started (by kernel_rfl) Tryz.func4
    (ChangeSpec.witness_shaped (enc := enc) (C := Tryz.checked) (os := os) (X := fun w _ => laidMetH Tryz.prog laidL w) false (World.doorLaid Tryz.prog 400 os) #[.agg #[.int .i64 0, .int .i64 0, .string ⟨#[]⟩, .bool false, .int .i64 0, .int .i64 0, .bool false, .int .i64 0, .int .i64 0, .int .i64 0, .int .i64 0, .int .i64 0, .int .i64 0, .int .i64 0, .int .i64 0, .slice none 0 0, .int .i64 0, .int .i64 0, .int .i64 0, .slice none 0 0, .int .i64 0, .int .i64 0, .slice none 0 0, .int .u8 0, .int .u8 0, .int .u8 0, .int .u8 0, .slice none 0 0, .slice none 0 0, .bool false, .slice none 0 0], .agg #[.int .i64 0, .int .i64 0, .int .i64 0, .int .i64 0, .int .i64 0, .int .i64 0, .int .i64 0, .int .i64 0], .int .i64 0] 8 rfl (World.shaped_of_RefB (by kernel_rfl) (by kernel_rfl)) (by kernel_rfl) (by kernel_rfl) (by kernel_rfl) (door_met os _)) ?_
  intro W base args ds gs before hwg hval hW hL
  have hW' := hW
  obtain ⟨p, q, hA0, hV, rfl, hfz, hnd⟩ := hW
  have hA : DataW.TrodAll enc Tryz.prog W 0 (fun _ => true) true Tryz.f4.params.toList args.toList ds p := hA0
  have hA1 := hA
  rw [Tryz.params4] at hA hval
  obtain ⟨v0, vs0, d0, ds0, p0, q0, hargs, rfl, rfl, h0, r0⟩ := trodAll_cons hA
  obtain ⟨v1, vs1, d1, ds1, p1, q1, rfl, rfl, rfl, h1, r1⟩ := trodAll_cons r0
  obtain ⟨v2, vs2, d2, ds2, p2, q2, rfl, rfl, rfl, h2, r2⟩ := trodAll_cons r1
  obtain ⟨rfl, rfl, rfl⟩ := trodAll_nil r2
  obtain rfl : args = #[v0, v1, v2] := by cases args; simp_all
  obtain ⟨rfl, rfl⟩ := trodVars_none hV
  obtain ⟨cs0, rfl⟩ := struct_in Tryz.underlying37 (hval 0 37 v0 rfl rfl)
  obtain ⟨fuel0, h0⟩ := h0
  obtain ⟨x0, hx0, hr0⟩ := deep_in (T := tLy) 9 (by kernel_rfl) h0
  obtain ⟨raw, rfl⟩ := lay_in hx0
  obtain ⟨cs1, rfl, l1, i1⟩ := arr_in Tryz.underlying22 Tryz.underlying3 (by kernel_rfl) (hval 1 22 v1 rfl rfl) (by kernel_rfl) h1
  obtain ⟨a, b, c, d, e, f, g, i, rfl⟩ := list8 l1 i1
  obtain ⟨n, rfl⟩ : ∃ n, v2 = .int .i64 n := by
    obtain ⟨ds, ⟨n, rfl, _⟩, y, ys, _, hr, rfl, e⟩ := Sha.arg_one (T := .int .i64) 9 (by kernel_rfl) (Sha.no_agg (hval 2 3 v2 rfl rfl) (fun _ => by rw [Tryz.underlying3]; simp) (fun _ _ => by rw [Tryz.underlying3]; simp)) h2
    simp only [List.cons.injEq, and_true] at e
    subst e
    exact ⟨n, hr⟩
  clear hA0
  refine (walk raw cs0 a b c d e f g i n W hwg hL hr0).mono fun e W' ⟨he, hg⟩ => ?_
  subst he
  exact ⟨_, rfl, post_of_below (pv := []) hW' (fun _ _ _ => (trodAll_cons_mk (shut_bool Tryz.underlying4 _) trodAll_mk0)) (fun sp hs => Go.Eng.args_stay laidO mapd full hg (by rw [Tryz.params4]; intro t ht; simp at ht; rcases ht with rfl | rfl | rfl <;> exact Nat.le_of_ble_eq_true (by kernel_rfl)) hA1 (fun p hp => hs p (by simpa using hp))) (fun _ _ => rfl) (by simp) hg (ok_one (by kernel_rfl) rfl (okWide_bool_mk Tryz.underlying4 _))⟩
theorem over : Rows.DocHeadSaid :=
  OpenClaim.holds_of_wide 4 Tryz.f4 rfl rfl rfl rfl rfl rfl rfl ⟨rfl, rfl, rfl, rfl, rfl⟩ rfl rfl rfl rfl rfl (by kernel_rfl) Tryz.func4 (by kernel_rfl)
    (of_decide_eq_true (by kernel_rfl)) (by unfold Func.isWrapper; first | (rw [if_pos (by decide +kernel)]; kernel_rfl) | (rw [if_neg (by decide +kernel)]; exact ⟨rfl, rfl⟩))
    (fun os started H enc _ => lifted os started H enc)
theorem proved : Rows.DocHeadCardSaid :=
  Claim7.holds_tied_plain_at .later [] [.data, .data] true (true, "23030fd68ec06ec8f50ba49be49af641bcabd85ad15c619495003d6d692d3564") true
    over (fun _ h => by cases h) (by kernel_rfl) (fun _ h => by cases h) docHead_row_tie rfl ⟨rfl, rfl⟩ (by kernel_rfl) rfl
    (fun f fn hf hfn => by
      obtain rfl : f = 4 := Option.some.inj ((show Tryz.prog.funcNamed "gouache/gouachelaw16.DocHead" = some 4 by kernel_rfl).symm.trans hf) |>.symm
      obtain rfl : fn = Tryz.f4 := (Option.some.inj (Tryz.func4.symm.trans hfn)).symm
      exact ⟨by kernel_rfl, fun j t ht => by
        rw [Tryz.params4] at ht
        have h3 : t = 37 ∨ t = 22 ∨ t = 3 := by
          rcases j with _ | _ | _ | j
          · exact .inl (by simpa using ht.symm)
          · exact .inr (.inl (by simpa using ht.symm))
          · exact .inr (.inr (by simpa using ht.symm))
          · simp at ht
        rcases h3 with rfl | rfl | rfl
        · exact (show Tryz.prog.wantsStandIn 37 = false by kernel_rfl)
        · exact (show Tryz.prog.wantsStandIn 22 = false by kernel_rfl)
        · exact (show Tryz.prog.wantsStandIn 3 = false by kernel_rfl)⟩)
    (by kernel_rfl)
#print axioms proved
end Go.Proofs.YtmjggdmekboefaaGreatDoor.docHead
