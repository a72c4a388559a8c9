/-
  DocQueries: at every input the law returns true, and what was there before reads as it did. No conditions.
-/
import Derived.Test.YtmjggdmekboefaaGreatJointW20
set_option linter.unusedVariables false
set_option linter.unusedSimpArgs false
set_option linter.unusedSectionVars false
namespace Go.Proofs.YtmjggdmekboefaaGreat.docQueries
open Go Go.ChangeShapes Go.WideShapes Go.ChangeAt Go.RowKit Go.Eng
set_option maxRecDepth 100000
theorem OR{P : Program}{ks : World}{r : Reach}{base : Nat}{t : TypeId}{v : Value}{fs : Array Field}(hs : P.underlying t = some (.struct fs))(hv : Value.okWide P ks r base t v) : ∃cs : List Value, v = .agg cs.toArray := by
  simp only[Value.okWide, hs]at hv;obtain⟨cs, rfl, _⟩ := hv;exact⟨cs.toList, by simp⟩
theorem ave(l : List Int)(la fi v n : Int)(jA : eV)(U : xX jA.f)(v0 : Value)(cs : List Value)(ks : World)(PB : lF (uG ks) (.eM l.length (eL l)) v0)(hr : jl (uG ks) ([.int .i64 la, .int .i64 fi, .int .i64 v]++jA.ds) cs) :
    Calls Tryz.prog 6 #[v0, .agg cs.toArray, .int .i64 n] ks fun e w' => e = .returned (.bool true)/\Below ks.heap.size ks w' :=
  OQ (args := [fD l, .agg (Q.wF la fi v jA), R n]) (vs := [v0, .agg cs.toArray, .int .i64 n]) Tryz.func6 (code := Q.ON) dJ dJ (Q.Tb l la fi v n jA U)
   (Tc (rT (E := BH (uG ks)) _ _ PB) (Tc (au5 (rU (E := BH (uG ks)) _ _ hr)) (Tc au6 au4)))
theorem abZ(os : Os)(HA : os.Started)(dG : Type)(enc : TypeId×Value->dG) :
    ReturnsInHanded {} Tryz.checked os 6 .any (Rows.docQueriesSpec.pre6 enc Tryz.prog Tryz.f6 Rows.docQueriesRow.domain false) (Rows.docQueriesSpec.post enc Tryz.prog Tryz.f6 false true false false) := by
  refine returnsInHanded_of_change (C := Tryz.checked) own HA dJ Tryz.func6
    (ChangeSpec.witness6 (enc := enc) (C := Tryz.checked) false ⟨#[], #[.slice none 0 0, .agg #[.int .i64 0, .int .i64 0, .int .i64 0, .int .i64 0, .int .i64 0, .string ⟨#[]⟩, .bool false, .int .i64 0, .int .i64 0, .bool false, .int .i64 0, .int .i64 0, .int .i64 0, .int .i64 0, .int .i64 0, .int .i64 0, .int .i64 0, .int .i64 0, .slice none 0 0, .int .i64 0, .int .i64 0, .int .i64 0, .slice none 0 0, .int .i64 0, .int .i64 0, .slice none 0 0, .int .u8 0, .int .u8 0, .int .u8 0, .int .u8 0, .slice none 0 0, .slice none 0 0, .bool false, .slice none 0 0], .int .i64 0], []⟩ 8 dJ dJ dJ dJ) ?_
  intro ks base args ds gs rM XF hW azr _;have OC : ∀(j : Nat) t v, Tryz.f6.params[j]? = some t->args[j]? = some v->Value.okWide Tryz.prog ks .any base t v := XF;have hW' := hW;obtain⟨p, q, W7, hV, rfl, Ed, hnd⟩ := hW;have hA : DataW.TrodAll enc Tryz.prog ks 0 (fun _ => true) true Tryz.f6.params.toList args.toList ds p := W7;have hA1 := hA;rw[Tryz.params6]at hA OC;obtain⟨v0, vs0, d0, yA, p0, q0, mS, rfl, rfl, h0, r0⟩ := trodAll_cons hA;obtain⟨v1, vs1, d1, ds1, p1, q1, rfl, rfl, rfl, h1, r1⟩ := trodAll_cons r0;obtain⟨v2, vs2, d2, ds2, p2, q2, rfl, rfl, rfl, C, r2⟩ := trodAll_cons r1;obtain⟨rfl, rfl, rfl⟩ := trodAll_nil r2;obtain rfl : args = #[v0, v1, v2] := by cases args;simp_all
  obtain⟨rfl, rfl⟩ := trodVars_none hV;obtain⟨l, hl⟩ := Wg dJ (Td (OC 0 22 v0 rfl rfl) (fun _ => by rw[Tryz.underlying22];simp) (fun _ _ => by rw[Tryz.underlying22];simp)) h0;obtain⟨cs1, rfl⟩ := OR Tryz.underlying37 (OC 1 37 v1 rfl rfl);obtain⟨awZ, h1⟩ := h1;obtain⟨x1, Wr, Wq⟩ := zw (s' := .agg [Q.tI, Q.tI, Q.tI, Q.tLy]) 9 dJ h1;obtain⟨la, fi, v, jA, rfl, U⟩ := Q.abY Wr;obtain⟨n, rfl⟩ : ∃n, v2 = .int .i64 n := by
   obtain⟨ds, ⟨n, rfl, _⟩, y, ys, _, hr, rfl, e⟩ := Ng (s' := .int .i64) 9 dJ (Td (OC 2 3 v2 rfl rfl) (fun _ => by rw[Tryz.underlying3];simp) (fun _ _ => by rw[Tryz.underlying3];simp)) C;simp only[List.cons.injEq, and_true]at e;subst e;exact⟨n, hr⟩
  clear W7 XF;refine(ave l la fi v n jA U v0 cs1 ks hl Wq).mono fun e W' ⟨he, hg⟩ => ?_;subst he;exact⟨_, rfl, ED (pv := []) hW' (fun _ _ _ => (trodAll_cons_mk (shut_bool Tryz.underlying4 _) trodAll_mk0)) (fun sp hs => FD aii au7 au8 hg (by rw[Tryz.params6];intro t ht;simp at ht;rcases ht with rfl|rfl|rfl<;>exact Nat.le_of_ble_eq_true dJ) hA1 (fun p hp => hs p (by simpa using hp))) (fun _ _ => rfl) (by simp) hg (ok_one dJ rfl (okWide_bool_mk Tryz.underlying4 _))⟩
theorem proved : Rows.DocQueriesSaid :=
  OpenClaim.holds_of_wide 6 Tryz.f6 rfl rfl rfl rfl rfl rfl rfl ⟨rfl, rfl, rfl, rfl, rfl⟩ rfl rfl rfl rfl rfl dJ Tryz.func6 dJ
    (of_decide_eq_true dJ) (by unfold Func.isWrapper;first|(rw[if_pos (by decide +kernel)];kernel_rfl)|(rw[if_neg (by decide +kernel)];exact⟨rfl, rfl⟩))
    (fun os HA dG enc _ => abZ os HA dG enc)
#print axioms proved
end Go.Proofs.YtmjggdmekboefaaGreat.docQueries
