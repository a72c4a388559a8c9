/-
  ChunkReach: at every input the law returns true, and what was there before reads as it did. Conditions: the two tables of the digest hold what the program's text lays (the card ties them).
-/
import Derived.Test.YtfihojpgobmmdaaGreatDoorCards
import Derived.Test.YtfihojpgobmmdaaGreatDoorTie
import Derived.Test.YtfihojpgobmmdaaGreatDoorJointTwenty
import Derived.Test.YtfihojpgobmmdaaGreatDoorJointTfour
set_option linter.unusedVariables false
set_option linter.unusedSimpArgs false
set_option linter.unusedSectionVars false
namespace Go.Proofs.YtfihojpgobmmdaaGreatDoor.chunkReach
open Go Go.ChangeShapes Go.WideShapes Go.ChangeAt Go.RowKit Go.Eng
set_option linter.unusedVariables false
set_option maxRecDepth 100000
theorem walk (x : Int) (hx : 0 ≤ x ∧ x ≤ 255) (y : Int) (hy : 0 ≤ y ∧ y ≤ 255) (gn : Bool) (v0 v1 v2 : Value) (W : World) (hw : WG W) (hl : laidMetH Tryz.prog laidL W) (hv0 : drel (phiW W) (.int .u8 x) v0) (hv1 : drel (phiW W) (.int .u8 y) v1) (hv2 : drel (phiW W) (.bool gn) v2) :
    Calls Tryz.prog 3 #[v0, v1, v2] W fun e w' => e = .returned (.bool true) ∧ Below W.heap.size W w' :=
  law_calls (ds := [.int .u8 x, .int .u8 y, .bool gn]) (vs := [v0, v1, v2]) Tryz.func3 (by kernel_rfl) (by kernel_rfl) (tgReach x hx.1 hx.2 y hy.1 hy.2 gn) hw hl (vcons (drel_toV (E := EW W) _ _ hv0) (vcons (drel_toV (E := EW W) _ _ hv1) (vcons (drel_toV (E := EW W) _ _ hv2) vnil)))
theorem lifted (os : Os) (started : os.Started) (H : Type) (enc : TypeId × Value → H) :
    ReturnsInHanded {} Tryz.checked os 3 .any (fun w args => (Rows.chunkReachSpec.pre enc Tryz.prog Tryz.f3 [] false w args ∧ laidMetH Tryz.prog laidL w) ∧ sizedMet enc Tryz.prog Tryz.f3 (OpenSpec.ofChange Rows.chunkReachSpec) false w args) (Rows.chunkReachSpec.post enc Tryz.prog Tryz.f3 false true false false) := by
  refine handed started (by kernel_rfl) Tryz.func3
    (ChangeSpec.witness_shaped (enc := enc) (C := Tryz.checked) (os := os) (X := fun w _ => laidMetH Tryz.prog laidL w) false (World.doorLaid Tryz.prog 400 os) #[.int .u8 0, .int .u8 0, .bool false] 8 rfl (World.shaped_of_RefB (by kernel_rfl) (by kernel_rfl)) (by kernel_rfl) (by kernel_rfl) (by kernel_rfl) (door_met os _)) ?_
  intro W base args ds gs before hwg hval hW hL
  have hW' := hW
  obtain ⟨p, q, hA0, hV, rfl, hfz, hnd⟩ := hW
  have hA : DataW.TrodAll enc Tryz.prog W 0 (fun _ => true) true Tryz.f3.params.toList args.toList ds p := hA0
  have hA1 := hA
  rw [Tryz.params3] at hA hval
  obtain ⟨v0, vs0, d0, ds0, p0, q0, hargs, rfl, rfl, h0, r0⟩ := trodAll_cons hA
  obtain ⟨v1, vs1, d1, ds1, p1, q1, rfl, rfl, rfl, h1, r1⟩ := trodAll_cons r0
  obtain ⟨v2, vs2, d2, ds2, p2, q2, rfl, rfl, rfl, h2, r2⟩ := trodAll_cons r1
  obtain ⟨rfl, rfl, rfl⟩ := trodAll_nil r2
  obtain rfl : args = #[v0, v1, v2] := by cases args; simp_all
  obtain ⟨rfl, rfl⟩ := trodVars_none hV
  obtain ⟨xs0, ⟨x, rfl, hw0⟩, y0, ys0, _, hr0, _, e0⟩ := arg_one (T := .int .u8) 9 (by kernel_rfl) (no_agg (hval 0 5 v0 rfl rfl) (fun _ => by rw [Tryz.underlying5]; simp) (fun _ _ => by rw [Tryz.underlying5]; simp)) h0
  cases e0
  obtain ⟨xs1, ⟨y, rfl, hw1⟩, y1, ys1, _, hr1, _, e1⟩ := arg_one (T := .int .u8) 9 (by kernel_rfl) (no_agg (hval 1 5 v1 rfl rfl) (fun _ => by rw [Tryz.underlying5]; simp) (fun _ _ => by rw [Tryz.underlying5]; simp)) h1
  cases e1
  obtain ⟨xs2, ⟨gn, rfl⟩, y2, ys2, _, hr2, _, e2⟩ := arg_one (T := .bool) 9 (by kernel_rfl) (no_agg (hval 2 4 v2 rfl rfl) (fun _ => by rw [Tryz.underlying4]; simp) (fun _ _ => by rw [Tryz.underlying4]; simp)) h2
  cases e2
  clear hA0
  refine (walk x (bounds_u8 hw0) y (bounds_u8 hw1) gn _ _ _ W hwg hL hr0 hr1 hr2).mono fun e W' ⟨he, hg⟩ => ?_
  subst he
  exact ⟨_, rfl, post_of_below (pv := []) hW' (fun _ _ _ => (trodAll_cons_mk (shut_bool Tryz.underlying4 _) trodAll_mk0)) (fun sp hs => args_stay laidO mapd full hg (by rw [Tryz.params3]; intro t ht; simp at ht; rcases ht with rfl | rfl <;> exact Nat.le_of_ble_eq_true (by kernel_rfl)) hA1 (fun p hp => hs p (by simpa using hp))) (fun _ _ => rfl) (by simp) hg (ok_one (by kernel_rfl) rfl (okWide_bool_mk Tryz.underlying4 _))⟩
theorem over : Rows.ChunkReachSaid :=
  OpenClaim.holds_of_wide 3 Tryz.f3 rfl rfl rfl rfl rfl rfl rfl ⟨rfl, rfl, rfl, rfl, rfl⟩ rfl rfl rfl rfl rfl (by kernel_rfl) Tryz.func3 (by kernel_rfl)
    (of_decide_eq_true (by kernel_rfl)) (by unfold Func.isWrapper; first | (rw [if_pos (by decide +kernel)]; kernel_rfl) | (rw [if_neg (by decide +kernel)]; exact ⟨rfl, rfl⟩))
    (fun os started H enc _ => lifted os started H enc)
theorem proved : Rows.ChunkReachCardSaid :=
  Claim7.holds_tied_plain_at .later [] [.data, .data] true (true, "7ee92a69701328ef72c66acf2e6a75b6a936c5ba0de6763e72f6a031fbc6b552") false
    over (fun _ h => by cases h) (by kernel_rfl) (fun _ h => by cases h) chunkReach_row_tie rfl ⟨rfl, rfl⟩ (by kernel_rfl) rfl
    (fun f fn hf hfn => by
      obtain rfl : f = 3 := Option.some.inj ((show Tryz.prog.funcNamed "gouache/gouachelaw22.ChunkReach" = some 3 by kernel_rfl).symm.trans hf) |>.symm
      obtain rfl : fn = Tryz.f3 := (Option.some.inj (Tryz.func3.symm.trans hfn)).symm
      exact ⟨by kernel_rfl, fun j t ht => by
        rw [Tryz.params3] at ht
        have h3 : t = 5 ∨ t = 5 ∨ t = 4 := by
          rcases j with _ | _ | _ | j
          · exact .inl (by simpa using ht.symm)
          · exact .inr (.inl (by simpa using ht.symm))
          · exact .inr (.inr (by simpa using ht.symm))
          · simp at ht
        rcases h3 with rfl | rfl | rfl
        · exact (show Tryz.prog.wantsStandIn 5 = false by kernel_rfl)
        · exact (show Tryz.prog.wantsStandIn 5 = false by kernel_rfl)
        · exact (show Tryz.prog.wantsStandIn 4 = false by kernel_rfl)⟩)
    (by kernel_rfl)
#print axioms proved
end Go.Proofs.YtfihojpgobmmdaaGreatDoor.chunkReach
