/-
  ChunkRoots: at every input the law returns true, and what was there before reads as it did. Conditions: the two tables of the digest hold what the program's text lays (the card ties them).
-/
import Derived.Test.YtfihojpgobmmdaaGreatDoorCards
import Derived.Test.YtfihojpgobmmdaaGreatDoorTie
import Derived.Test.YtfihojpgobmmdaaGreatDoorJointNineteen
import Derived.Test.YtfihojpgobmmdaaGreatDoorJointTthree
set_option linter.unusedVariables false
set_option linter.unusedSimpArgs false
set_option linter.unusedSectionVars false
namespace Go.Proofs.YtfihojpgobmmdaaGreatDoor.chunkRoots
open Go Go.ChangeShapes Go.WideShapes Go.ChangeAt Go.RowKit Go.Eng
set_option linter.unusedVariables false
set_option maxRecDepth 100000
theorem walk (l : List (List UInt8)) (v0 : Value) (W : World) (hw : WG W) (hl : laidMetH Tryz.prog laidL W) (hv0 : drel (phiW W) (.lst l.length (strs l)) v0) :
    Calls Tryz.prog 6 #[v0] W fun e w' => e = .returned (.bool true) ∧ Below W.heap.size W w' :=
  law_calls (ds := [.lst l.length (strs l)]) (vs := [v0]) Tryz.func6 (by kernel_rfl) (by kernel_rfl) (tgRs false l) hw hl (vcons (drel_toV (E := EW W) _ _ hv0) vnil)
theorem lifted (os : Os) (started : os.Started) (H : Type) (enc : TypeId × Value → H) :
    ReturnsInHanded {} Tryz.checked os 6 .any (fun w args => (Rows.chunkRootsSpec.pre enc Tryz.prog Tryz.f6 [] false w args ∧ laidMetH Tryz.prog laidL w) ∧ sizedMet enc Tryz.prog Tryz.f6 (OpenSpec.ofChange Rows.chunkRootsSpec) false w args) (Rows.chunkRootsSpec.post enc Tryz.prog Tryz.f6 false true false false) := by
  refine handed started (by kernel_rfl) Tryz.func6
    (ChangeSpec.witness_shaped (enc := enc) (C := Tryz.checked) (os := os) (X := fun w _ => laidMetH Tryz.prog laidL w) false (World.doorLaid Tryz.prog 400 os) #[.slice none 0 0] 8 rfl (World.shaped_of_RefB (by kernel_rfl) (by kernel_rfl)) (by kernel_rfl) (by kernel_rfl) (by kernel_rfl) (door_met os _)) ?_
  intro W base args ds gs before hwg hval hW hL
  have hW' := hW
  obtain ⟨p, q, hA0, hV, rfl, hfz, hnd⟩ := hW
  have hA : DataW.TrodAll enc Tryz.prog W 0 (fun _ => true) true Tryz.f6.params.toList args.toList ds p := hA0
  have hA1 := hA
  rw [Tryz.params6] at hA hval
  obtain ⟨v0, vs0, d0, ds0, p0, q0, hargs, rfl, rfl, h0, r0⟩ := trodAll_cons hA
  obtain ⟨rfl, rfl, rfl⟩ := trodAll_nil r0
  obtain rfl : args = #[v0] := by cases args; simp_all
  obtain ⟨rfl, rfl⟩ := trodVars_none hV
  obtain ⟨xs0, ⟨rows0, rfl, _, hrows0⟩, y0, ys0, _, hr0, _, e0⟩ := arg_one (T := .slc .str) 9 (by kernel_rfl) (no_agg (hval 0 36 v0 rfl rfl) (fun _ => by rw [Tryz.underlying36]; simp) (fun _ _ => by rw [Tryz.underlying36]; simp)) h0
  cases e0
  obtain ⟨l, hl01, hl02⟩ := rows_strs hrows0
  rw [hl01, ← hl02] at hr0
  clear hA0
  refine (walk l _ W hwg hL hr0).mono fun e W' ⟨he, hg⟩ => ?_
  subst he
  exact ⟨_, rfl, post_of_below (pv := []) hW' (fun _ _ _ => (trodAll_cons_mk (shut_bool Tryz.underlying4 _) trodAll_mk0)) (fun sp hs => args_stay laidO mapd full hg (by rw [Tryz.params6]; intro t ht; simp at ht; rcases ht with rfl <;> exact Nat.le_of_ble_eq_true (by kernel_rfl)) hA1 (fun p hp => hs p (by simpa using hp))) (fun _ _ => rfl) (by simp) hg (ok_one (by kernel_rfl) rfl (okWide_bool_mk Tryz.underlying4 _))⟩
theorem over : Rows.ChunkRootsSaid :=
  OpenClaim.holds_of_wide 6 Tryz.f6 rfl rfl rfl rfl rfl rfl rfl ⟨rfl, rfl, rfl, rfl, rfl⟩ rfl rfl rfl rfl rfl (by kernel_rfl) Tryz.func6 (by kernel_rfl)
    (of_decide_eq_true (by kernel_rfl)) (by unfold Func.isWrapper; first | (rw [if_pos (by decide +kernel)]; kernel_rfl) | (rw [if_neg (by decide +kernel)]; exact ⟨rfl, rfl⟩))
    (fun os started H enc _ => lifted os started H enc)
theorem proved : Rows.ChunkRootsCardSaid :=
  Claim7.holds_tied_plain_at .later [] [.data, .data] true (true, "7ee92a69701328ef72c66acf2e6a75b6a936c5ba0de6763e72f6a031fbc6b552") false
    over (fun _ h => by cases h) (by kernel_rfl) (fun _ h => by cases h) chunkRoots_row_tie rfl ⟨rfl, rfl⟩ (by kernel_rfl) rfl
    (fun f fn hf hfn => by
      obtain rfl : f = 6 := Option.some.inj ((show Tryz.prog.funcNamed "gouache/gouachelaw22.ChunkRoots" = some 6 by kernel_rfl).symm.trans hf) |>.symm
      obtain rfl : fn = Tryz.f6 := (Option.some.inj (Tryz.func6.symm.trans hfn)).symm
      exact ⟨by kernel_rfl, fun j t ht => by
        rw [Tryz.params6] at ht
        have h3 : t = 36 := by
          rcases j with _ | j
          · simpa using ht.symm
          · simp at ht
        subst h3
        exact (show Tryz.prog.wantsStandIn 36 = false by kernel_rfl)⟩)
    (by kernel_rfl)
#print axioms proved
end Go.Proofs.YtfihojpgobmmdaaGreatDoor.chunkRoots
