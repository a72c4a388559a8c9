/-
  ChunkNil: at every input the law returns true, and what was there before reads as it did. Conditions: the two tables of the digest hold what the program's text lays (the card ties them).
-/
import Derived.Test.YtfihojpgobmmdaaGreatDoorCards
import Derived.Test.YtfihojpgobmmdaaGreatDoorTie
import Derived.Test.YtfihojpgobmmdaaGreatDoorJointW26
set_option linter.unusedVariables false
set_option linter.unusedSimpArgs false
set_option linter.unusedSectionVars false
namespace Go.Proofs.YtfihojpgobmmdaaGreatDoor.chunkNil
open Go Go.ChangeShapes Go.WideShapes Go.ChangeAt Go.RowKit Go.Eng
set_option maxRecDepth 100000
theorem ari(l : List AT)(v0 : Value)(hm : World)(hw : WG hm)(hl : laidMetH Tryz.prog xC hm)(ZI : lH (AU hm) (.dS l.length (BN l)) v0) :
    Calls Tryz.prog 12 #[v0] hm fun e w' => e = .returned (.bool true)/\Below hm.heap.size hm w' :=
  Pt (ds := [.dS l.length (BN l)]) (vs := [v0]) Tryz.func12 U U (ard l) hw hl (aiN (my (E := EW hm) _ _ ZI) are)
theorem acR(os : Os)(zV : os.Started)(Tr : Type)(enc : TypeId×Value->Tr) :
    ReturnsInHanded {} Tryz.checked os 12 .any (fun w args => (Rows.chunkNilSpec.pre enc Tryz.prog Tryz.f12 [] false w args/\laidMetH Tryz.prog xC w)/\sizedMet enc Tryz.prog Tryz.f12 (OpenSpec.ofChange Rows.chunkNilSpec) false w args) (Rows.chunkNilSpec.post enc Tryz.prog Tryz.f12 false true false false) := by
  refine acP zV U Tryz.func12
    (ChangeSpec.witness_shaped (enc := enc) (C := Tryz.checked) (os := os) (X := fun w _ => laidMetH Tryz.prog xC w) false (World.doorLaid Tryz.prog 400 os) #[.slice none 0 0] 8 rfl (World.shaped_of_RefB U U) U U U (T8 os _)) ?_
  intro hm base args ds gs nO hwg Ya hW J;have hW' := hW;obtain⟨p, q, hA0, hV, rfl, BP, Kt⟩ := hW;have hA : DataW.TrodAll enc Tryz.prog hm 0 (fun _ => true) true Tryz.f12.params.toList args.toList ds p := hA0;have hA1 := hA;rw[Tryz.params12]at hA Ya;obtain⟨v0, vs0, d0, xV, p0, q0, nY, rfl, rfl, h0, r0⟩ := trodAll_cons hA;obtain⟨rfl, rfl, rfl⟩ := trodAll_nil r0;obtain rfl : args = #[v0] := by cases args;simp_all
  obtain⟨rfl, rfl⟩ := trodVars_none hV;obtain⟨xs0, ⟨as6, rfl, _, acS⟩, y0, ys0, _, hr0, _, e0⟩ := XI (cQ := .dj (.agg [.int .u8, .int .u8, .int .u8, .str])) 9 U (acH (Ya 0 48 v0 rfl rfl) (fun _ => by rw[Tryz.underlying48];simp) (fun _ _ => by rw[Tryz.underlying48];simp)) h0;cases e0;obtain⟨l, arj, ark⟩ := JZ acS;rw[arj, <- ark]at hr0;clear hA0;refine(ari l _ hm hwg J hr0).mono fun e W' ⟨he, hg⟩ => ?_;subst he;exact⟨_, rfl, EL (pv := []) hW' (fun _ _ _ => (trodAll_cons_mk (shut_bool Tryz.underlying4 _) trodAll_mk0)) (fun sp hs => FZ aiO arf Q6 hg (by rw[Tryz.params12];intro t ht;simp at ht;rcases ht with rfl<;>exact Nat.le_of_ble_eq_true U) hA1 (fun p hp => hs p (by simpa using hp))) (fun _ _ => rfl) (by simp) hg (ok_one U rfl (okWide_bool_mk Tryz.underlying4 _))⟩
theorem over : Rows.ChunkNilSaid :=
  OpenClaim.holds_of_wide 12 Tryz.f12 rfl rfl rfl rfl rfl rfl rfl ⟨rfl, rfl, rfl, rfl, rfl⟩ rfl rfl rfl rfl rfl U Tryz.func12 U
    (of_decide_eq_true U) (by unfold Func.isWrapper;first|(rw[if_pos (by decide +kernel)];kernel_rfl)|(rw[if_neg (by decide +kernel)];exact⟨rfl, rfl⟩))
    (fun os zV Tr enc _ => acR os zV Tr enc)
theorem proved : Rows.ChunkNilCardSaid :=
  Claim7.holds_tied_plain_at .later [] [.data, .data] true (true, "7ee92a69701328ef72c66acf2e6a75b6a936c5ba0de6763e72f6a031fbc6b552") false
    over (fun _ h => by cases h) U (fun _ h => by cases h) chunkNil_row_tie rfl ⟨rfl, rfl⟩ U rfl
    (fun f fn hf Uf => by
      obtain rfl : f = 12 := Option.some.inj ((show Tryz.prog.funcNamed "gouache/gouachelaw22.ChunkNil" = some 12 by kernel_rfl).symm.trans hf) |>.symm;obtain rfl : fn = Tryz.f12 := (Option.some.inj (Tryz.func12.symm.trans Uf)).symm;exact⟨U, fun j t ht => by
        rw[Tryz.params12]at ht;have h3 : t = 48 := by
         rcases j with _|j
         . simpa using ht.symm
         . simp at ht
        subst h3;exact(show Tryz.prog.wantsStandIn 48 = false by kernel_rfl)⟩)
    U
#print axioms proved
end Go.Proofs.YtfihojpgobmmdaaGreatDoor.chunkNil
