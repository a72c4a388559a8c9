/-
  ChunkCrash: at every input the law returns true, and what was there before reads as it did. Conditions: the two tables of the digest hold what the program's text lays (the card ties them).
-/
import Derived.Test.YtfihojpgobmmdaaGreatDoorCards
import Derived.Test.YtfihojpgobmmdaaGreatDoorTie
import Derived.Test.YtfihojpgobmmdaaGreatDoorJointW24
import Derived.Test.YtfihojpgobmmdaaGreatDoorJointW26
set_option linter.unusedVariables false
set_option linter.unusedSimpArgs false
set_option linter.unusedSectionVars false
namespace Go.Proofs.YtfihojpgobmmdaaGreatDoor.chunkCrash
open Go Go.ChangeShapes Go.WideShapes Go.ChangeAt Go.RowKit Go.Eng
set_option maxRecDepth 100000
theorem aqk(l : List zJ)(x yx : Nat)(hx : x<=255)(hyx : yx<=255)(v0 v1 : Value)(W : World)(hw : WG W)(hl : laidMetH Tryz.prog xb W)(Zh : kO (x9 W) (.dM l.length (BB l)) v0)(hv1 : kO (x9 W) (.agg [.int .u8 (x : Int), .int .u8 (yx : Int)]) v1) :
    Calls Tryz.prog 9 #[v0, v1] W fun e w' => e = .returned (.bool true)/\Below W.heap.size W w' :=
  Pr (ds := [.dM l.length (BB l), .agg [.int .u8 (x : Int), .int .u8 (yx : Int)]]) (vs := [v0, v1]) Tryz.func9 U U (aqd l x yx hx hyx) hw hl (YV (lu (E := EW W) _ _ Zh) (YV (lu (E := EW W) _ _ hv1) aqh))
theorem acw(os : Os)(zL : os.Started)(H : Type)(enc : TypeId×Value->H) :
    ReturnsInHanded {} Tryz.checked os 9 .any (fun w args => (Rows.chunkCrashSpec.pre enc Tryz.prog Tryz.f9 [] false w args/\laidMetH Tryz.prog xb w)/\sizedMet enc Tryz.prog Tryz.f9 (OpenSpec.ofChange Rows.chunkCrashSpec) false w args) (Rows.chunkCrashSpec.post enc Tryz.prog Tryz.f9 false true false false) := by
  refine acu zL U Tryz.func9
    (ChangeSpec.witness_shaped (enc := enc) (C := Tryz.checked) (os := os) (X := fun w _ => laidMetH Tryz.prog xb w) false (World.doorLaid Tryz.prog 400 os) #[.slice none 0 0, .agg #[.int .u8 0, .int .u8 0]] 8 rfl (World.shaped_of_RefB U U) U U U (TN os _)) ?_
  intro W base args ds gs ny hwg TP hW hL;have hW' := hW;obtain⟨p, q, hA0, hV, rfl, BD, Km⟩ := hW;have hA : DataW.TrodAll enc Tryz.prog W 0 (fun _ => true) true Tryz.f9.params.toList args.toList ds p := hA0;have hA1 := hA;rw[Tryz.params9]at hA TP;obtain⟨v0, vs0, d0, Bx, p0, q0, nG, rfl, rfl, h0, r0⟩ := trodAll_cons hA;obtain⟨v1, vs1, d1, ds1, p1, q1, rfl, rfl, rfl, h1, r1⟩ := trodAll_cons r0;obtain⟨rfl, rfl, rfl⟩ := trodAll_nil r1;obtain rfl : args = #[v0, v1] := by cases args;simp_all
  obtain⟨rfl, rfl⟩ := trodVars_none hV;obtain⟨xs0, ⟨ar2, rfl, _, acy⟩, y0, ys0, _, hr0, _, e0⟩ := Xm (T := .di (.agg [.int .u8, .int .u8, .int .u8, .str])) 9 U (acs (TP 0 48 v0 rfl rfl) (fun _ => by rw[Tryz.underlying48];simp) (fun _ _ => by rw[Tryz.underlying48];simp)) h0;cases e0;obtain⟨l, aqm, aqn⟩ := JU acy;rw[aqm, <- aqn]at hr0;obtain⟨x, yx, hx, hyx, AR⟩ := Xn (TP 1 61 v1 rfl rfl) h1;clear hA0;refine(aqk l x yx hx hyx _ _ W hwg hL hr0 AR).mono fun e W' ⟨he, hg⟩ => ?_;subst he;exact⟨_, rfl, EB (pv := []) hW' (fun _ _ _ => (trodAll_cons_mk (shut_bool Tryz.underlying4 _) trodAll_mk0)) (fun sp hs => FU ahZ aqi QT hg (by rw[Tryz.params9];intro t ht;simp at ht;rcases ht with rfl|rfl<;>exact Nat.le_of_ble_eq_true U) hA1 (fun p hp => hs p (by simpa using hp))) (fun _ _ => rfl) (by simp) hg (ok_one U rfl (okWide_bool_mk Tryz.underlying4 _))⟩
theorem over : Rows.ChunkCrashSaid :=
  OpenClaim.holds_of_wide 9 Tryz.f9 rfl rfl rfl rfl rfl rfl rfl ⟨rfl, rfl, rfl, rfl, rfl⟩ rfl rfl rfl rfl rfl U Tryz.func9 U
    (of_decide_eq_true U) (by unfold Func.isWrapper;first|(rw[if_pos (by decide +kernel)];kernel_rfl)|(rw[if_neg (by decide +kernel)];exact⟨rfl, rfl⟩))
    (fun os zL H enc _ => acw os zL H enc)
theorem proved : Rows.ChunkCrashCardSaid :=
  Claim7.holds_tied_plain_at .later [] [.data, .data] true (true, "7ee92a69701328ef72c66acf2e6a75b6a936c5ba0de6763e72f6a031fbc6b552") false
    over (fun _ h => by cases h) U (fun _ h => by cases h) chunkCrash_row_tie rfl ⟨rfl, rfl⟩ U rfl
    (fun f fn hf TV => by
      obtain rfl : f = 9 := Option.some.inj ((show Tryz.prog.funcNamed "gouache/gouachelaw22.ChunkCrash" = some 9 by kernel_rfl).symm.trans hf) |>.symm;obtain rfl : fn = Tryz.f9 := (Option.some.inj (Tryz.func9.symm.trans TV)).symm;exact⟨U, fun j t ht => by
        rw[Tryz.params9]at ht;have h3 : t = 48\/t = 61 := by
         rcases j with _|_|j
         . exact .inl (by simpa using ht.symm)
         . exact .inr (by simpa using ht.symm)
         . simp at ht
        rcases h3 with rfl|rfl
        . exact(show Tryz.prog.wantsStandIn 48 = false by kernel_rfl)
        . exact(show Tryz.prog.wantsStandIn 61 = false by kernel_rfl)⟩)
    U
#print axioms proved
end Go.Proofs.YtfihojpgobmmdaaGreatDoor.chunkCrash
