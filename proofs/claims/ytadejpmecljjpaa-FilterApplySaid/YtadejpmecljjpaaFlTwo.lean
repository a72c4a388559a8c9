/- Filter laws anew, part E: the bytes of a filter, both ways: runs. No conditions. -/
import Derived.Test.YtadejpmecljjpaaFlOne
set_option linter.unusedVariables false
set_option linter.unusedSimpArgs false
set_option linter.unusedSectionVars false
namespace Go.Proofs.Ytadejpmecljjpaa
open Go Go.Eng
section
variable (nK nC : Bool) (k r d v : Int) (lK cK zK lC cC zC : Nat) (ks cs : List Int)
def boxB : O := .cells [.int .i64 k, .int .i64 r, sK nK lK cK zK, .int .i64 d, .int .i64 v, sC nC lC cC zC]
def hB : Tr O := hL ((match nK with | true => [] | false => [(0, .ints .i64 ks)]) ++ ((match nC with | true => [] | false => [(1, .ints .i64 cs)]) ++ [(2, boxB nK nC k r d v lK cK zK lC cC zC)]))
end
end Go.Proofs.Ytadejpmecljjpaa
namespace Go.Proofs.Ytadejpmecljjpaa
open Go Go.Eng
section
variable (nK nC : Bool) (k r d v : Int) (lK cK zK lC cC zC : Nat) (ks cs : List Int)
variable {nK nC}
end
section
variable (nK nC : Bool) (k r d v : Int) (lK cK zK lC cC zC : Nat) (ks cs : List Int)
abbrev stepP (l : Nat) (ks : List Int) (acc : List UInt8) (i : Nat) : List Prop := [((0 : Int) ≤ Int.ofNat i ∧ Int.ofNat i < Int.ofNat l), ((0 : Nat) + (Int.ofNat i).toNat * (1 : Nat) < ks.length), (acc.length + (varS (ks.getD ((0 : Nat) + (Int.ofNat i).toNat * (1 : Nat)) (0 : Int))).length ≤ (9223372036854775807 : Nat)), (V.int IntKind.i64 (IntKind.i64.wrap (Int.ofNat i + (1 : Int))) = V.int IntKind.i64 (Int.ofNat (i + (1 : Nat))))]
theorem step_ok {l : Nat} {ks : List Int} {acc : List UInt8} {i : Nat} (hi : i < l) (hl : l ≤ ks.length) (hb : l ≤ 1000) (ha : acc.length ≤ 100000) : ∀ a ∈ stepP l ks acc i, a := by
  simp only [stepP, List.mem_cons, List.not_mem_nil, or_false]
  rintro a (rfl | rfl | rfl | rfl)
  · exact in_ofNat hi
  · show 0 + i * 1 < ks.length; omega
  · have h2 := varS_len (ks.getD ((0 : Nat) + (Int.ofNat i).toNat * (1 : Nat)) (0 : Int))
    omega
  · exact up_ok (by omega)
variable {nK nC}
end
theorem nil_any {E E' : Env} {l c z : Nat} {y : Value} (q : vrel E (.slc none l c z) y) : vrel E' (.slc none l c z) y := q
end Go.Proofs.Ytadejpmecljjpaa
namespace Go.Proofs.Ytadejpmecljjpaa
open Go Go.Eng
end Go.Proofs.Ytadejpmecljjpaa
namespace Go.Proofs.Ytadejpmecljjpaa
open Go Go.Eng
section
variable {nK nC : Bool} (k r d v : Int) (lK cK zK lC cC zC : Nat) (ks cs : List Int)
end
noncomputable abbrev W4 : CtrW := W0
theorem W4_ok : CtrWOk Try.prog W4 := W0_ok
noncomputable abbrev cs4 : CallS := callX Try.prog W4 H0 1000 40
noncomputable abbrev X4 : CX Try.prog := CX.of mo po W4_ok H0 1000 40
end Go.Proofs.Ytadejpmecljjpaa
