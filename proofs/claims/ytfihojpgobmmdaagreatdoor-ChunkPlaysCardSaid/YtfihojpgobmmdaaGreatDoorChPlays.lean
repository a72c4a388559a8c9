/-
  ChunkPlays: at every input the law returns true, and what was there before reads as it did. Conditions: the two tables of the digest hold what the program's text lays (the card ties them).
-/
import Derived.Test.YtfihojpgobmmdaaGreatDoorCards
import Derived.Test.YtfihojpgobmmdaaGreatDoorTie
import Derived.Test.YtfihojpgobmmdaaGreatDoorJointW24
import Derived.Test.YtfihojpgobmmdaaGreatDoorJointW26
set_option linter.unusedVariables false
set_option linter.unusedSimpArgs false
set_option linter.unusedSectionVars false
namespace Go.Proofs.YtfihojpgobmmdaaGreatDoor.chunkPlays
open Go Go.ChangeShapes Go.WideShapes Go.ChangeAt Go.RowKit Go.Eng
set_option maxRecDepth 100000
theorem aoO(l : List GY)(v0 : Value)(W : World)(hw : WG W)(hl : laidMetH Tryz.prog wU W)(Yu : k8 (Ar W) (.dL l.length (DC l)) v0) :
    Calls Tryz.prog 8 #[v0] W fun e w' => e = .returned (.bool true)/\Below W.heap.size W w' :=
  OI (ds := [.dL l.length (DC l)]) (vs := [v0]) Tryz.func8 U U (aoJ l) hw hl (agM (lX (E := EW W) _ _ Yu) aoL)
theorem abt(os : Os)(zv : os.Started)(H : Type)(enc : TypeId×Value->H) :
    ReturnsInHanded {} Tryz.checked os 8 .any (fun w args => (Rows.chunkPlaysSpec.pre enc Tryz.prog Tryz.f8 [] false w args/\laidMetH Tryz.prog wU w)/\sizedMet enc Tryz.prog Tryz.f8 (OpenSpec.ofChange Rows.chunkPlaysSpec) false w args) (Rows.chunkPlaysSpec.post enc Tryz.prog Tryz.f8 false true false false) := by
  refine abq zv U Tryz.func8
    (ChangeSpec.witness_shaped (enc := enc) (C := Tryz.checked) (os := os) (X := fun w _ => laidMetH Tryz.prog wU w) false (World.doorLaid Tryz.prog 400 os) #[.slice none 0 0] 8 rfl (World.shaped_of_RefB U U) U U U (SZ os _)) ?_
  intro W base args ds gs nt hwg Ww hW hL;have hW' := hW;obtain⟨p, q, hA0, hV, rfl, Bk, JP⟩ := hW;have hA : DataW.TrodAll enc Tryz.prog W 0 (fun _ => true) true Tryz.f8.params.toList args.toList ds p := hA0;have hA1 := hA;rw[Tryz.params8]at hA Ww;obtain⟨v0, vs0, d0, Be, p0, q0, nD, rfl, rfl, h0, r0⟩ := trodAll_cons hA;obtain⟨rfl, rfl, rfl⟩ := trodAll_nil r0;obtain rfl : args = #[v0] := by cases args;simp_all
  obtain⟨rfl, rfl⟩ := trodVars_none hV;obtain⟨xs0, ⟨aqt, rfl, _, abu⟩, y0, ys0, _, hr0, _, e0⟩ := Wu (T := .di (.agg [.int .u8, .int .u8, .int .u8, .str])) 9 U (abp (Ww 0 48 v0 rfl rfl) (fun _ => by rw[Tryz.underlying48];simp) (fun _ _ => by rw[Tryz.underlying48];simp)) h0;cases e0;obtain⟨l, aoP, aoQ⟩ := Jq abu;rw[aoP, <- aoQ]at hr0;clear hA0;refine(aoO l _ W hwg hL hr0).mono fun e W' ⟨he, hg⟩ => ?_;subst he;exact⟨_, rfl, Eg (pv := []) hW' (fun _ _ _ => (trodAll_cons_mk (shut_bool Tryz.underlying4 _) trodAll_mk0)) (fun sp hs => Fw agN aoM Qb hg (by rw[Tryz.params8];intro t ht;simp at ht;rcases ht with rfl<;>exact Nat.le_of_ble_eq_true U) hA1 (fun p hp => hs p (by simpa using hp))) (fun _ _ => rfl) (by simp) hg (ok_one U rfl (okWide_bool_mk Tryz.underlying4 _))⟩
theorem over : Rows.ChunkPlaysSaid :=
  OpenClaim.holds_of_wide 8 Tryz.f8 rfl rfl rfl rfl rfl rfl rfl ⟨rfl, rfl, rfl, rfl, rfl⟩ rfl rfl rfl rfl rfl U Tryz.func8 U
    (of_decide_eq_true U) (by unfold Func.isWrapper;first|(rw[if_pos (by decide +kernel)];kernel_rfl)|(rw[if_neg (by decide +kernel)];exact⟨rfl, rfl⟩))
    (fun os zv H enc _ => abt os zv H enc)
theorem proved : Rows.ChunkPlaysCardSaid :=
  Claim7.holds_tied_plain_at .later [] [.data, .data] true (true, "7ee92a69701328ef72c66acf2e6a75b6a936c5ba0de6763e72f6a031fbc6b552") false
    over (fun _ h => by cases h) U (fun _ h => by cases h) chunkPlays_row_tie rfl ⟨rfl, rfl⟩ U rfl
    (fun f fn hf S6 => by
      obtain rfl : f = 8 := Option.some.inj ((show Tryz.prog.funcNamed "gouache/gouachelaw22.ChunkPlays" = some 8 by kernel_rfl).symm.trans hf) |>.symm;obtain rfl : fn = Tryz.f8 := (Option.some.inj (Tryz.func8.symm.trans S6)).symm;exact⟨U, fun j t ht => by
        rw[Tryz.params8]at ht;have h3 : t = 48 := by
         rcases j with _|j
         . simpa using ht.symm
         . simp at ht
        subst h3;exact(show Tryz.prog.wantsStandIn 48 = false by kernel_rfl)⟩)
    U
#print axioms proved
end Go.Proofs.YtfihojpgobmmdaaGreatDoor.chunkPlays
