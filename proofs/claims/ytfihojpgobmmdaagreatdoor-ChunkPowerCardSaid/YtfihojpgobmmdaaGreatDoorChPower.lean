/-
  ChunkPower: at every input the law returns true, and what was there before reads as it did. Conditions: the two tables of the digest hold what the program's text lays (the card ties them).
-/
import Derived.Test.YtfihojpgobmmdaaGreatDoorCards
import Derived.Test.YtfihojpgobmmdaaGreatDoorTie
import Derived.Test.YtfihojpgobmmdaaGreatDoorJointW20
set_option linter.unusedVariables false
set_option linter.unusedSimpArgs false
set_option linter.unusedSectionVars false
namespace Go.Proofs.YtfihojpgobmmdaaGreatDoor.chunkPower
open Go Go.ChangeShapes Go.WideShapes Go.ChangeAt Go.RowKit Go.Eng
set_option maxRecDepth 100000
theorem aso(l : List lR)(ms : List lR)(q yq : Nat)(hq : q<=255)(hyq : yq<=255)(v0 v1 v2 : Value)(hm : World)(hw : WG hm)(hl : laidMetH Tryz.prog xM hm)(hv0 : kV (xm hm) (.dV l.length (pM l)) v0)(hv1 : kV (xm hm) (.dV ms.length (pM ms)) v1)(hv2 : kV (xm hm) (.agg [.int .u8 (q : Int), .int .u8 (yq : Int)]) v2) :
    Calls Tryz.prog 11 #[v0, v1, v2] hm fun e w' => e = .returned (.bool true)/\Below hm.heap.size hm w' :=
  Qj (ds := [.dV l.length (pM l), .dV ms.length (pM ms), .agg [.int .u8 (q : Int), .int .u8 (yq : Int)]]) (vs := [v0, v1, v2]) Tryz.func11 U U (ajw l ms q yq hq hyq) hw hl (UW (kW (E := EW hm) _ _ hv0) (UW (kW (E := EW hm) _ _ hv1) (UW (kW (E := EW hm) _ _ hv2) asl)))
theorem adN(os : Os)(Aj : os.Started)(Tr : Type)(enc : TypeId×Value->Tr) :
    ReturnsInHanded {} Tryz.checked os 11 .any (fun w args => (Rows.chunkPowerSpec.pre enc Tryz.prog Tryz.f11 [] false w args/\laidMetH Tryz.prog xM w)/\sizedMet enc Tryz.prog Tryz.f11 (OpenSpec.ofChange Rows.chunkPowerSpec) false w args) (Rows.chunkPowerSpec.post enc Tryz.prog Tryz.f11 false true false false) := by
  refine adL Aj U Tryz.func11
    (ChangeSpec.witness_shaped (enc := enc) (C := Tryz.checked) (os := os) (X := fun w _ => laidMetH Tryz.prog xM w) false (World.doorLaid Tryz.prog 400 os) #[.slice none 0 0, .slice none 0 0, .agg #[.int .u8 0, .int .u8 0]] 8 rfl (World.shaped_of_RefB U U) U U U (UX os _)) ?_
  intro hm base args ds gs oa hwg Qk hW K;have hW' := hW;obtain⟨p, q, hA0, hV, rfl, B7, GM⟩ := hW;have hA : DataW.TrodAll enc Tryz.prog hm 0 (fun _ => true) true Tryz.f11.params.toList args.toList ds p := hA0;have hA1 := hA;rw[Tryz.params11]at hA Qk;obtain⟨v0, vs0, d0, BW, p0, q0, oq, rfl, rfl, h0, r0⟩ := trodAll_cons hA;obtain⟨v1, vs1, d1, ds1, p1, q1, rfl, rfl, rfl, X, r1⟩ := trodAll_cons r0;obtain⟨v2, vs2, d2, ds2, p2, q2, rfl, rfl, rfl, h2, r2⟩ := trodAll_cons r1;obtain⟨rfl, rfl, rfl⟩ := trodAll_nil r2;obtain rfl : args = #[v0, v1, v2] := by cases args;simp_all
  obtain⟨rfl, rfl⟩ := trodVars_none hV;obtain⟨xs0, ⟨at7, rfl, _, adO⟩, y0, ys0, _, hr0, _, e0⟩ := Ot (cS := .dx (.agg [.int .u8, .int .u8, .int .u8, .str])) 9 U (UU (Qk 0 48 v0 rfl rfl) (fun _ => by rw[Tryz.underlying48];simp) (fun _ _ => by rw[Tryz.underlying48];simp)) h0;cases e0;obtain⟨l, asq, ass⟩ := Et adO;rw[asq, <- ass]at hr0;obtain⟨Q6, ⟨aua, rfl, _, adP⟩, y1, ys1, _, B8, _, e1⟩ := Ot (cS := .dx (.agg [.int .u8, .int .u8, .int .u8, .str])) 9 U (UU (Qk 1 48 v1 rfl rfl) (fun _ => by rw[Tryz.underlying48];simp) (fun _ _ => by rw[Tryz.underlying48];simp)) X;cases e1;obtain⟨ms, ast, asu⟩ := Et adP;rw[ast, <- asu]at B8;obtain⟨q, yq, hq, hyq, Ht⟩ := YH (Qk 2 61 v2 rfl rfl) h2;clear hA0;refine(aso l ms q yq hq hyq _ _ _ hm hwg K hr0 B8 Ht).mono fun e W' ⟨he, hg⟩ => ?_;subst he;exact⟨_, rfl, Fm (pv := []) hW' (fun _ _ _ => (trodAll_cons_mk (shut_bool Tryz.underlying4 _) trodAll_mk0)) (fun sp hs => Gr ajx asm RO hg (by rw[Tryz.params11];intro t ht;simp at ht;rcases ht with rfl|rfl<;>exact Nat.le_of_ble_eq_true U) hA1 (fun p hp => hs p (by simpa using hp))) (fun _ _ => rfl) (by simp) hg (ok_one U rfl (okWide_bool_mk Tryz.underlying4 _))⟩
theorem asv : Rows.ChunkPowerSaid :=
  OpenClaim.holds_of_wide 11 Tryz.f11 rfl rfl rfl rfl rfl rfl rfl ⟨rfl, rfl, rfl, rfl, rfl⟩ rfl rfl rfl rfl rfl U Tryz.func11 U
    (of_decide_eq_true U) (by unfold Func.isWrapper;first|(rw[if_pos (by decide +kernel)];kernel_rfl)|(rw[if_neg (by decide +kernel)];exact⟨rfl, rfl⟩))
    (fun os Aj Tr enc _ => adN os Aj Tr enc)
theorem proved : Rows.ChunkPowerCardSaid :=
  Claim7.holds_tied_plain_at .later [] [.data, .data] true (true, "7ee92a69701328ef72c66acf2e6a75b6a936c5ba0de6763e72f6a031fbc6b552") false
    asv (fun _ h => by cases h) U (fun _ h => by cases h) chunkPower_row_tie rfl ⟨rfl, rfl⟩ U rfl
    (fun f fn hf U4 => by
      obtain rfl : f = 11 := Option.some.inj ((show Tryz.prog.funcNamed "gouache/gouachelaw22.ChunkPower" = some 11 by kernel_rfl).symm.trans hf) |>.symm;obtain rfl : fn = Tryz.f11 := (Option.some.inj (Tryz.func11.symm.trans U4)).symm;exact⟨U, fun j t ht => by
        rw[Tryz.params11]at ht;have h3 : t = 48\/t = 48\/t = 61 := by
         rcases j with _|_|_|j
         . exact .inl (by simpa using ht.symm)
         . exact .inr (.inl (by simpa using ht.symm))
         . exact .inr (.inr (by simpa using ht.symm))
         . simp at ht
        rcases h3 with rfl|rfl|rfl
        . exact(show Tryz.prog.wantsStandIn 48 = false by kernel_rfl)
        . exact(show Tryz.prog.wantsStandIn 48 = false by kernel_rfl)
        . exact(show Tryz.prog.wantsStandIn 61 = false by kernel_rfl)⟩)
    U
#print axioms proved
end Go.Proofs.YtfihojpgobmmdaaGreatDoor.chunkPower
