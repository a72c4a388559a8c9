/-
  ChunkOnce: at every input the law returns true, and what was there before reads as it did. Conditions: the two tables of the digest hold what the program's text lays (the card ties them).
-/
import Derived.Test.YtfihojpgobmmdaaGreatDoorCards
import Derived.Test.YtfihojpgobmmdaaGreatDoorTie
import Derived.Test.YtfihojpgobmmdaaGreatDoorJointSixteen
import Derived.Test.YtfihojpgobmmdaaGreatDoorJointTwenty
set_option linter.unusedVariables false
set_option linter.unusedSimpArgs false
set_option linter.unusedSectionVars false
namespace Go.Proofs.YtfihojpgobmmdaaGreatDoor.chunkOnce
open Go Go.ChangeShapes Go.WideShapes Go.ChangeAt Go.RowKit Go.Eng
set_option linter.unusedVariables false
set_option maxRecDepth 100000
theorem walk (l : List (List UInt8)) (v : Value) (W : World) (hw : WG W) (hl : laidMetH Tryz.prog laidL W) (hv : drel (phiW W) (.lst l.length (strs l)) v) :
    Calls Tryz.prog 4 #[v] W fun e w' => e = .returned (.bool true) ∧ Below W.heap.size W w' :=
  law_calls (ds := [.lst l.length (strs l)]) (vs := [v]) Tryz.func4 (code := cdOn) (by kernel_rfl) (by kernel_rfl) (tgOn false l) hw hl ⟨v, [], drel_toV (E := EW W) _ _ hv, rfl, rfl⟩
theorem lifted (os : Os) (started : os.Started) (H : Type) (enc : TypeId × Value → H) :
    ReturnsInHanded {} Tryz.checked os 4 .any (fun w args => (Rows.chunkOnceSpec.pre enc Tryz.prog Tryz.f4 [] false w args ∧ laidMetH Tryz.prog laidL w) ∧ sizedMet enc Tryz.prog Tryz.f4 (OpenSpec.ofChange Rows.chunkOnceSpec) false w args) (Rows.chunkOnceSpec.post enc Tryz.prog Tryz.f4 false true false false) := by
  refine handed started (by kernel_rfl) Tryz.func4
    (ChangeSpec.witness_shaped (enc := enc) (C := Tryz.checked) (os := os) (X := fun w _ => laidMetH Tryz.prog laidL w) false (World.doorLaid Tryz.prog 400 os) #[.slice none 0 0] 8 rfl (World.shaped_of_RefB (by kernel_rfl) (by kernel_rfl)) (by kernel_rfl) (by kernel_rfl) (by kernel_rfl) (door_met os _)) ?_
  intro W base args ds gs before hwg hval hW hL
  have hW' := hW
  obtain ⟨p, q, hA0, hV, rfl, hfz, hnd⟩ := hW
  have hA : DataW.TrodAll enc Tryz.prog W 0 (fun _ => true) true Tryz.f4.params.toList args.toList ds p := hA0
  have hA1 := hA
  rw [Tryz.params4] at hA hval
  obtain ⟨v0, vs0, d0, ds0, p0, q0, hargs, rfl, rfl, h0, r0⟩ := trodAll_cons hA
  obtain ⟨rfl, rfl, rfl⟩ := trodAll_nil r0
  obtain rfl : args = #[v0] := by cases args; simp_all
  obtain ⟨rfl, rfl⟩ := trodVars_none hV
  obtain ⟨xs, ⟨rows, rfl, _, hrows⟩, y, ys, _, hr0, _, e0⟩ := arg_one (T := .slc .str) 9 (by kernel_rfl) (no_agg (hval 0 36 v0 rfl rfl) (fun _ => by rw [Tryz.underlying36]; simp) (fun _ _ => by rw [Tryz.underlying36]; simp)) h0
  cases e0
  obtain ⟨l, hl1, hl2⟩ := rows_strs hrows
  rw [hl1, ← hl2] at hr0
  clear hA0
  refine (walk l _ W hwg hL hr0).mono fun e W' ⟨he, hg⟩ => ?_
  subst he
  exact ⟨_, rfl, post_of_below (pv := []) hW' (fun _ _ _ => (trodAll_cons_mk (shut_bool Tryz.underlying4 _) trodAll_mk0)) (fun sp hs => args_stay laidO mapd full hg (by rw [Tryz.params4]; intro t ht; simp at ht; rcases ht with rfl; exact Nat.le_of_ble_eq_true (by kernel_rfl)) hA1 (fun p hp => hs p (by simpa using hp))) (fun _ _ => rfl) (by simp) hg (ok_one (by kernel_rfl) rfl (okWide_bool_mk Tryz.underlying4 _))⟩
theorem over : Rows.ChunkOnceSaid :=
  OpenClaim.holds_of_wide 4 Tryz.f4 rfl rfl rfl rfl rfl rfl rfl ⟨rfl, rfl, rfl, rfl, rfl⟩ rfl rfl rfl rfl rfl (by kernel_rfl) Tryz.func4 (by kernel_rfl)
    (of_decide_eq_true (by kernel_rfl)) (by unfold Func.isWrapper; first | (rw [if_pos (by decide +kernel)]; kernel_rfl) | (rw [if_neg (by decide +kernel)]; exact ⟨rfl, rfl⟩))
    (fun os started H enc _ => lifted os started H enc)
theorem proved : Rows.ChunkOnceCardSaid :=
  Claim7.holds_tied_plain_at .later [] [.data, .data] true (true, "7ee92a69701328ef72c66acf2e6a75b6a936c5ba0de6763e72f6a031fbc6b552") false
    over (fun _ h => by cases h) (by kernel_rfl) (fun _ h => by cases h) chunkOnce_row_tie rfl ⟨rfl, rfl⟩ (by kernel_rfl) rfl
    (fun f fn hf hfn => by
      obtain rfl : f = 4 := Option.some.inj ((show Tryz.prog.funcNamed "gouache/gouachelaw22.ChunkOnce" = some 4 by kernel_rfl).symm.trans hf) |>.symm
      obtain rfl : fn = Tryz.f4 := (Option.some.inj (Tryz.func4.symm.trans hfn)).symm
      exact ⟨by kernel_rfl, fun j t ht => by
        rw [Tryz.params4] at ht
        have h3 : t = 36 := by
          rcases j with _ | j
          · simpa using ht.symm
          · simp at ht
        subst h3
        exact (show Tryz.prog.wantsStandIn 36 = false by kernel_rfl)⟩)
    (by kernel_rfl)
#print axioms proved
end Go.Proofs.YtfihojpgobmmdaaGreatDoor.chunkOnce
