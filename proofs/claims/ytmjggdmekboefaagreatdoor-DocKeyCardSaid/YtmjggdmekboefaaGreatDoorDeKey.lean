/-
  DocKey: at every input the law returns true, and what was there before reads as it did. Conditions: the two tables of the digest hold what the program's text lays (the card ties them).
-/
import Derived.Test.YtmjggdmekboefaaGreatDoorCards
import Derived.Test.YtmjggdmekboefaaGreatDoorTie
import Derived.Test.YtmjggdmekboefaaGreatDoorJointTen
import Derived.Test.YtmjggdmekboefaaGreatDoorJointFourteen
set_option linter.unusedVariables false
set_option linter.unusedSimpArgs false
set_option linter.unusedSectionVars false
namespace Go.Proofs.YtmjggdmekboefaaGreatDoor.docKey
open Go Go.ChangeShapes Go.WideShapes Go.ChangeAt Go.RowKit Go.Eng
open Go.Proofs.YtmjggdmekboefaaGreatDoor.Sha (laidL law_calls handed door_met laidO mapd full post_of_below gS gR)
set_option linter.unusedVariables false
set_option maxRecDepth 100000
theorem array_ints {H : Type} {enc : TypeId × Value → H} {P : Program} {W : World} {t e : TypeId} {len n : Nat} {k : IntKind} {l : List Value} {y : DataW H × List MemPlace} (hs : P.underlying t = some (.array len e)) (he : P.underlying e = some (.int k)) (h1 : P.cellsOf e = 1)
    (h : DataW.trod enc P W 0 (fun _ => true) true n t l = some y) (j : Nat) (hj : j < len) (hl : j < l.length) : ∃ i, l[j]? = some (.int k i) := by
  obtain ⟨xs, n, _, _, _, hxl, hx⟩ := DataW.trod_array hs h
  have hg := hx j hj
  rw [h1] at hg
  have e1 : (l.drop (j * 1)).take 1 = [l[j]] := by
    rw [Nat.mul_one, List.drop_eq_getElem_cons hl, List.take_succ_cons, List.take_zero]
  rw [e1] at hg
  have hxj : xs[j]? = some (xs[j]'(by omega)) := List.getElem?_eq_getElem (by omega)
  obtain ⟨i, hi⟩ := int_in he (hg.trans hxj)
  exact ⟨i, by rw [List.getElem?_eq_getElem hl, hi]⟩
theorem arr_in {H : Type} {enc : TypeId × Value → H} {P : Program} {W : World} {r : Reach} {base : Nat} {t e : TypeId} {len : Nat} {k : IntKind} {v : Value} {d : DataW H} {p : List MemPlace} (hs : P.underlying t = some (.array len e)) (he : P.underlying e = some (.int k)) (h1 : P.cellsOf e = 1)
    (hv : Value.okWide P W r base t v) (hl : P.cellsOf t = len) (h : DataW.Trod enc P W 0 (fun _ => true) true t v d p) : ∃ cs : List Value, v = .agg cs.toArray ∧ cs.length = len ∧ ∀ j, j < len → ∃ i, cs[j]? = some (.int k i) := by
  simp only [Value.okWide, hs] at hv
  obtain ⟨cs, rfl, hsz, _⟩ := hv
  obtain ⟨fuel, h⟩ := h
  obtain ⟨l⟩ := cs
  have hlen : l.length = len := by rw [← hl]; simpa using hsz
  refine ⟨l, rfl, hlen, fun j hj => ?_⟩
  exact array_ints hs he h1 (l := l) h j hj (by omega)
theorem list8 {k : IntKind} {cs : List Value} (h : cs.length = 8) (hi : ∀ j, j < 8 → ∃ i, cs[j]? = some (.int k i)) : ∃ a b c d e f g i, cs = [.int k a, .int k b, .int k c, .int k d, .int k e, .int k f, .int k g, .int k i] := by
  match cs, h with
  | [x0, x1, x2, x3, x4, x5, x6, x7], _ =>
    obtain ⟨a, h0⟩ := hi 0 (by decide)
    obtain ⟨b, h1⟩ := hi 1 (by decide)
    obtain ⟨c, h2⟩ := hi 2 (by decide)
    obtain ⟨d, h3⟩ := hi 3 (by decide)
    obtain ⟨e, h4⟩ := hi 4 (by decide)
    obtain ⟨f, h5⟩ := hi 5 (by decide)
    obtain ⟨g, h6⟩ := hi 6 (by decide)
    obtain ⟨i, h7⟩ := hi 7 (by decide)
    simp only [List.getElem?_cons_zero, List.getElem?_cons_succ, Option.some.injEq] at h0 h1 h2 h3 h4 h5 h6 h7
    exact ⟨a, b, c, d, e, f, g, i, by rw [h0, h1, h2, h3, h4, h5, h6, h7]⟩
theorem walk (a b c d e f g i : Int) (W : World) (hw : WG W) (hl : laidMetH Tryz.prog laidL W) :
    Calls Tryz.prog 3 #[.agg #[.int .i64 a, .int .i64 b, .int .i64 c, .int .i64 d, .int .i64 e, .int .i64 f, .int .i64 g, .int .i64 i]] W fun e w' => e = .returned (.bool true) ∧ Below W.heap.size W w' :=
  law_calls (ds := [.agg [.int .i64 a, .int .i64 b, .int .i64 c, .int .i64 d, .int .i64 e, .int .i64 f, .int .i64 g, .int .i64 i]]) (vs := [.agg #[.int .i64 a, .int .i64 b, .int .i64 c, .int .i64 d, .int .i64 e, .int .i64 f, .int .i64 g, .int .i64 i]]) Tryz.func3 (code := cdLk) (by kernel_rfl) (by kernel_rfl) (lkT ⟨a, b, c, d, e, f, g, i⟩) hw hl
    (vcons (vagg (vcons vint (vcons vint (vcons vint (vcons vint (vcons vint (vcons vint (vcons vint (vcons vint vnil))))))))) vnil)
theorem lifted (os : Os) (started : os.Started) (H : Type) (enc : TypeId × Value → H) :
    ReturnsInHanded {} Tryz.checked os 3 .any (fun w args => (Rows.docKeySpec.pre enc Tryz.prog Tryz.f3 [] false w args ∧ laidMetH Tryz.prog laidL w) ∧ sizedMet enc Tryz.prog Tryz.f3 (OpenSpec.ofChange Rows.docKeySpec) false w args) (Rows.docKeySpec.post enc Tryz.prog Tryz.f3 false true false false) := by
  refine handed started (by kernel_rfl) Tryz.func3
    (ChangeSpec.witness_shaped (enc := enc) (C := Tryz.checked) (os := os) (X := fun w _ => laidMetH Tryz.prog laidL w) false (World.doorLaid Tryz.prog 400 os) #[.agg #[.int .i64 0, .int .i64 0, .int .i64 0, .int .i64 0, .int .i64 0, .int .i64 0, .int .i64 0, .int .i64 0]] 8 rfl (World.shaped_of_RefB (by kernel_rfl) (by kernel_rfl)) (by kernel_rfl) (by kernel_rfl) (by kernel_rfl) (door_met os _)) ?_
  intro W base args ds gs before hwg hval hW hL
  have hW' := hW
  obtain ⟨p, q, hA0, hV, rfl, hfz, hnd⟩ := hW
  have hA : DataW.TrodAll enc Tryz.prog W 0 (fun _ => true) true Tryz.f3.params.toList args.toList ds p := hA0
  have hA1 := hA
  rw [Tryz.params3] at hA hval
  obtain ⟨v0, vs0, d0, ds0, p0, q0, hargs, rfl, rfl, h0, r0⟩ := trodAll_cons hA
  obtain ⟨rfl, rfl, rfl⟩ := trodAll_nil r0
  obtain rfl : args = #[v0] := by cases args; simp_all
  obtain ⟨rfl, rfl⟩ := trodVars_none hV
  obtain ⟨cs1, rfl, l1, i1⟩ := arr_in Tryz.underlying22 Tryz.underlying3 (by kernel_rfl) (hval 0 22 v0 rfl rfl) (by kernel_rfl) h0
  obtain ⟨a, b, c, d, e, f, g, i, rfl⟩ := list8 l1 i1
  clear hA0
  refine (walk a b c d e f g i W hwg hL).mono fun e W' ⟨he, hg⟩ => ?_
  subst he
  exact ⟨_, rfl, post_of_below (pv := []) hW' (fun _ _ _ => (trodAll_cons_mk (shut_bool Tryz.underlying4 _) trodAll_mk0)) (fun sp hs => Go.Eng.args_stay laidO mapd full hg (by rw [Tryz.params3]; intro t ht; simp at ht; rcases ht with rfl; exact Nat.le_of_ble_eq_true (by kernel_rfl)) hA1 (fun p hp => hs p (by simpa using hp))) (fun _ _ => rfl) (by simp) hg (ok_one (by kernel_rfl) rfl (okWide_bool_mk Tryz.underlying4 _))⟩
theorem over : Rows.DocKeySaid :=
  OpenClaim.holds_of_wide 3 Tryz.f3 rfl rfl rfl rfl rfl rfl rfl ⟨rfl, rfl, rfl, rfl, rfl⟩ rfl rfl rfl rfl rfl (by kernel_rfl) Tryz.func3 (by kernel_rfl)
    (of_decide_eq_true (by kernel_rfl)) (by unfold Func.isWrapper; first | (rw [if_pos (by decide +kernel)]; kernel_rfl) | (rw [if_neg (by decide +kernel)]; exact ⟨rfl, rfl⟩))
    (fun os started H enc _ => lifted os started H enc)
theorem proved : Rows.DocKeyCardSaid :=
  Claim7.holds_tied_plain_at .later [] [.data, .data] true (true, "23030fd68ec06ec8f50ba49be49af641bcabd85ad15c619495003d6d692d3564") true
    over (fun _ h => by cases h) (by kernel_rfl) (fun _ h => by cases h) docKey_row_tie rfl ⟨rfl, rfl⟩ (by kernel_rfl) rfl
    (fun f fn hf hfn => by
      obtain rfl : f = 3 := Option.some.inj ((show Tryz.prog.funcNamed "gouache/gouachelaw16.DocKey" = some 3 by kernel_rfl).symm.trans hf) |>.symm
      obtain rfl : fn = Tryz.f3 := (Option.some.inj (Tryz.func3.symm.trans hfn)).symm
      exact ⟨by kernel_rfl, fun j t ht => by
        rw [Tryz.params3] at ht
        have h3 : t = 22 := by
          rcases j with _ | j
          · simpa using ht.symm
          · simp at ht
        subst h3
        exact (show Tryz.prog.wantsStandIn 22 = false by kernel_rfl)⟩)
    (by kernel_rfl)
#print axioms proved
end Go.Proofs.YtmjggdmekboefaaGreatDoor.docKey
