/-
  ChunkCompact: at every input the law returns true, and what was there before reads as it did. Conditions: the two tables of the digest hold what the program's text lays (the card ties them).
-/
import Derived.Test.YtfihojpgobmmdaaGreatDoorCards
import Derived.Test.YtfihojpgobmmdaaGreatDoorTie
import Derived.Test.YtfihojpgobmmdaaGreatDoorJointW24
import Derived.Test.YtfihojpgobmmdaaGreatDoorJointW26
set_option linter.unusedVariables false
set_option linter.unusedSimpArgs false
set_option linter.unusedSectionVars false
namespace Go.Proofs.YtfihojpgobmmdaaGreatDoor.chunkCompact
open Go Go.ChangeShapes Go.WideShapes Go.ChangeAt Go.RowKit Go.Eng
set_option maxRecDepth 100000
theorem ap2(l : List AF)(v0 : Value)(W : World)(hw : WG W)(hl : laidMetH Tryz.prog w8 W)(Y3 : lq (AG W) (.dO l.length (DR l)) v0) :
    Calls Tryz.prog 10 #[v0] W fun e w' => e = .returned (.bool true)/\Below W.heap.size W w' :=
  O5 (ds := [.dO l.length (DR l)]) (vs := [v0]) Tryz.func10 U U (apW l) hw hl (ahH (l6 (E := EW W) _ _ Y3) apZ)
theorem ab8(os : Os)(zH : os.Started)(H : Type)(enc : TypeId×Value->H) :
    ReturnsInHanded {} Tryz.checked os 10 .any (fun w args => (Rows.chunkCompactSpec.pre enc Tryz.prog Tryz.f10 [] false w args/\laidMetH Tryz.prog w8 w)/\sizedMet enc Tryz.prog Tryz.f10 (OpenSpec.ofChange Rows.chunkCompactSpec) false w args) (Rows.chunkCompactSpec.post enc Tryz.prog Tryz.f10 false true false false) := by
  refine ab6 zH U Tryz.func10
    (ChangeSpec.witness_shaped (enc := enc) (C := Tryz.checked) (os := os) (X := fun w _ => laidMetH Tryz.prog w8 w) false (World.doorLaid Tryz.prog 400 os) #[.slice none 0 0] 10 rfl (World.shaped_of_RefB U U) U U U (Tw os _)) ?_
  intro W base args ds gs nE hwg Xg hW hL;have hW' := hW;obtain⟨p, q, hA0, hV, rfl, Bz, J8⟩ := hW;have hA : DataW.TrodAll enc Tryz.prog W 0 (fun _ => true) true Tryz.f10.params.toList args.toList ds p := hA0;have hA1 := hA;rw[Tryz.params10]at hA Xg;obtain⟨v0, vs0, d0, Bs, p0, q0, nJ, rfl, rfl, h0, r0⟩ := trodAll_cons hA;obtain⟨rfl, rfl, rfl⟩ := trodAll_nil r0;obtain rfl : args = #[v0] := by cases args;simp_all
  obtain⟨rfl, rfl⟩ := trodVars_none hV;obtain⟨xs0, ⟨arG, rfl, _, ab9⟩, y0, ys0, _, hr0, _, e0⟩ := W0 (T := .dj (.agg [.int .u8, .int .u8, .int .u8, .str])) 9 U (abZ (Xg 0 48 v0 rfl rfl) (fun _ => by rw[Tryz.underlying48];simp) (fun _ _ => by rw[Tryz.underlying48];simp)) h0;cases e0;obtain⟨l, ap3, ap4⟩ := JI ab9;rw[ap3, <- ap4]at hr0;clear hA0;refine(ap2 l _ W hwg hL hr0).mono fun e W' ⟨he, hg⟩ => ?_;subst he;exact⟨_, rfl, Ez (pv := []) hW' (fun _ _ _ => (trodAll_cons_mk (shut_bool Tryz.underlying4 _) trodAll_mk0)) (fun sp hs => FM ahI ap0 QA hg (by rw[Tryz.params10];intro t ht;simp at ht;rcases ht with rfl<;>exact Nat.le_of_ble_eq_true U) hA1 (fun p hp => hs p (by simpa using hp))) (fun _ _ => rfl) (by simp) hg (ok_one U rfl (okWide_bool_mk Tryz.underlying4 _))⟩
theorem over : Rows.ChunkCompactSaid :=
  OpenClaim.holds_of_wide 10 Tryz.f10 rfl rfl rfl rfl rfl rfl rfl ⟨rfl, rfl, rfl, rfl, rfl⟩ rfl rfl rfl rfl rfl U Tryz.func10 U
    (of_decide_eq_true U) (by unfold Func.isWrapper;first|(rw[if_pos (by decide +kernel)];kernel_rfl)|(rw[if_neg (by decide +kernel)];exact⟨rfl, rfl⟩))
    (fun os zH H enc _ => ab8 os zH H enc)
theorem proved : Rows.ChunkCompactCardSaid :=
  Claim7.holds_tied_plain_at .later [] [.data, .data] true (true, "7ee92a69701328ef72c66acf2e6a75b6a936c5ba0de6763e72f6a031fbc6b552") false
    over (fun _ h => by cases h) U (fun _ h => by cases h) chunkCompact_row_tie rfl ⟨rfl, rfl⟩ U rfl
    (fun f fn hf TE => by
      obtain rfl : f = 10 := Option.some.inj ((show Tryz.prog.funcNamed "gouache/gouachelaw22.ChunkCompact" = some 10 by kernel_rfl).symm.trans hf) |>.symm;obtain rfl : fn = Tryz.f10 := (Option.some.inj (Tryz.func10.symm.trans TE)).symm;exact⟨U, fun j t ht => by
        rw[Tryz.params10]at ht;have h3 : t = 48 := by
         rcases j with _|j
         . simpa using ht.symm
         . simp at ht
        subst h3;exact(show Tryz.prog.wantsStandIn 48 = false by kernel_rfl)⟩)
    U
#print axioms proved
end Go.Proofs.YtfihojpgobmmdaaGreatDoor.chunkCompact
