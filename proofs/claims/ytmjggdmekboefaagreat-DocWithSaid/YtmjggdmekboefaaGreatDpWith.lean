/-
  DocWith: at every input the law returns true, and what was there before reads as it did. No conditions.
-/
import Derived.Test.YtmjggdmekboefaaGreatJointW20
set_option linter.unusedVariables false
set_option linter.unusedSimpArgs false
set_option linter.unusedSectionVars false
namespace Go.Proofs.YtmjggdmekboefaaGreat.docWith
open Go Go.ChangeShapes Go.WideShapes Go.ChangeAt Go.RowKit Go.Eng
set_option maxRecDepth 100000
theorem Og{P : Program}{dP : World}{r : Reach}{base : Nat}{t : TypeId}{v : Value}{fs : Array Field}(hs : P.underlying t = some (.struct fs))(hv : Value.okWide P dP r base t v) : ∃cs : List Value, v = .agg cs.toArray := by
  simp only[Value.okWide, hs]at hv;obtain⟨cs, rfl, _⟩ := hv;exact⟨cs.toList, by simp⟩
theorem aub(l : List Int)(la fi v : Int)(iN : eJ)(Y : ur iN.f)(v0 : Value)(cs : List Value)(dP : World)(O3 : lg (uv dP) (.eE l.length (eG l)) v0)(hr : jd (uv dP) ([.int .i64 la, .int .i64 fi, .int .i64 v]++iN.ds) cs) :
    Calls Tryz.prog 3 #[v0, .agg cs.toArray] dP fun e w' => e = .returned (.bool true)/\Below dP.heap.size dP w' :=
  Of (args := [fF l, .agg (Q.v7 la fi v iN)]) (vs := [v0, .agg cs.toArray]) Tryz.func3 (code := Q.Od) dD dD (Q.ahu l la fi v iN Y)
   (WO (rI (E := Bf (uv dP)) _ _ O3) (WO (at0 (rJ (E := Bf (uv dP)) _ _ hr)) atZ))
theorem abd(os : Os)(G0 : os.Started)(dz : Type)(enc : TypeId×Value->dz) :
    ReturnsInHanded {} Tryz.checked os 3 .any (Rows.docWithSpec.pre6 enc Tryz.prog Tryz.f3 Rows.docWithRow.domain false) (Rows.docWithSpec.post enc Tryz.prog Tryz.f3 false true false false) := by
  refine returnsInHanded_of_change (C := Tryz.checked) own G0 dD Tryz.func3
    (ChangeSpec.witness6 (enc := enc) (C := Tryz.checked) false ⟨#[], #[.slice none 0 0, .agg #[.int .i64 0, .int .i64 0, .int .i64 0, .int .i64 0, .int .i64 0, .string ⟨#[]⟩, .bool false, .int .i64 0, .int .i64 0, .bool false, .int .i64 0, .int .i64 0, .int .i64 0, .int .i64 0, .int .i64 0, .int .i64 0, .int .i64 0, .int .i64 0, .slice none 0 0, .int .i64 0, .int .i64 0, .int .i64 0, .slice none 0 0, .int .i64 0, .int .i64 0, .slice none 0 0, .int .u8 0, .int .u8 0, .int .u8 0, .int .u8 0, .slice none 0 0, .slice none 0 0, .bool false, .slice none 0 0]], []⟩ 8 dD dD dD dD) ?_
  intro dP base args ds gs rB WS hW ayH _;have RW : ∀(j : Nat) t v, Tryz.f3.params[j]? = some t->args[j]? = some v->Value.okWide Tryz.prog dP .any base t v := WS;have hW' := hW;obtain⟨p, q, Wf, hV, rfl, DQ, hnd⟩ := hW;have hA : DataW.TrodAll enc Tryz.prog dP 0 (fun _ => true) true Tryz.f3.params.toList args.toList ds p := Wf;have hA1 := hA;rw[Tryz.params3]at hA RW;obtain⟨v0, vs0, d0, yc, p0, q0, mG, rfl, rfl, h0, r0⟩ := trodAll_cons hA;obtain⟨v1, vs1, d1, ds1, p1, q1, rfl, rfl, rfl, h1, r1⟩ := trodAll_cons r0;obtain⟨rfl, rfl, rfl⟩ := trodAll_nil r1;obtain rfl : args = #[v0, v1] := by cases args;simp_all
  obtain⟨rfl, rfl⟩ := trodVars_none hV;obtain⟨l, hl⟩ := Vx dD (aa9 (RW 0 22 v0 rfl rfl) (fun _ => by rw[Tryz.underlying22];simp) (fun _ _ => by rw[Tryz.underlying22];simp)) h0;obtain⟨cs1, rfl⟩ := Og Tryz.underlying37 (RW 1 37 v1 rfl rfl);obtain⟨av1, h1⟩ := h1;obtain⟨x1, VH, VG⟩ := yY (fr := .agg [Q.tI, Q.tI, Q.tI, Q.tLy]) 9 dD h1;obtain⟨la, fi, v, iN, rfl, Y⟩ := Q.abc VH;clear Wf WS;refine(aub l la fi v iN Y v0 cs1 dP hl VG).mono fun e W' ⟨he, hg⟩ => ?_;subst he;exact⟨_, rfl, Eh (pv := []) hW' (fun _ _ _ => (trodAll_cons_mk (shut_bool Tryz.underlying4 _) trodAll_mk0)) (fun sp hs => Fe ahv at1 at5 hg (by rw[Tryz.params3];intro t ht;simp at ht;rcases ht with rfl|rfl<;>exact Nat.le_of_ble_eq_true dD) hA1 (fun p hp => hs p (by simpa using hp))) (fun _ _ => rfl) (by simp) hg (ok_one dD rfl (okWide_bool_mk Tryz.underlying4 _))⟩
theorem proved : Rows.DocWithSaid :=
  OpenClaim.holds_of_wide 3 Tryz.f3 rfl rfl rfl rfl rfl rfl rfl ⟨rfl, rfl, rfl, rfl, rfl⟩ rfl rfl rfl rfl rfl dD Tryz.func3 dD
    (of_decide_eq_true dD) (by unfold Func.isWrapper;first|(rw[if_pos (by decide +kernel)];kernel_rfl)|(rw[if_neg (by decide +kernel)];exact⟨rfl, rfl⟩))
    (fun os G0 dz enc _ => abd os G0 dz enc)
#print axioms proved
end Go.Proofs.YtmjggdmekboefaaGreat.docWith
