/- The engine, part MI: a call whose arguments may be frozen ahead of it. No conditions: lemmas alone. -/
import Derived.Test.YtfihojpgobmmdaaGreatDoorJointThirteen
set_option linter.unusedVariables false
set_option linter.unusedSimpArgs false
set_option linter.unusedSectionVars false
namespace Go.Eng
open Go Go.RowKit
theorem CallsOne.frz {P : Program} {f : FuncId} {args args2 : List V} {h h2 : Tr O} {n : Nat} {ms : List Nat} {A : List Prop} {R : V → Tr O → Nat → Prop}
    (hl : (Nat.beq args.length args2.length && Nat.blt args.length top) = true) (e : fzS ms (startSt args h n) = some (A, startSt args2 h2 n)) (hA : ∀ a ∈ A, a) (c : CallsOne P f args2 h2 n R) : CallsOne P f args h n R := by
  intro E w args' ra g hd
  simp only [Bool.and_eq_true] at hl
  have hlen : args.length = args2.length := Nat.eq_of_beq_eq_true hl.1
  have hlt : args.length < top := Nat.le_of_ble_eq_true hl.2
  obtain ⟨hfr, hsz⟩ := frel_enter (n := args.length) ra (Nat.le_refl _) hlt
  have r : SRel E args.length (startSt args h n) { tmps := args'.toArray ++ Array.replicate (args.length - args'.toArray.size) undef, defers := [] } w := ⟨g, hd, hfr, hsz, rfl⟩
  obtain ⟨E2, r2, u, _, hι⟩ := fzS_sound (n0 := n) e hA r (Nat.le_refl _)
  have hsz' : args'.length = args.length := vrels_length ra
  have ra2 : vrels E2 args2 args' := by
    refine vrels_of_get (by omega) fun i v hv => ?_
    have hi : i < args2.length := (List.getElem?_eq_some_iff.1 hv).1
    have hg : (startSt args2 h2 n).fr.get i = some v := by
      show (frameOf args2 0 .nil).get i = some v
      rw [frameOf_get args2 0 .nil i (by omega)]
      rw [if_pos (by omega)]
      simpa using hv
    obtain ⟨v', k1, k2⟩ := r2.fr i v hg
    refine ⟨v', ?_, k2⟩
    rw [Array.getElem?_append_left (by simp; omega)] at k1
    simpa using k1
  refine (c E2 w args' ra2 r2.good r2.dom).mono fun en w' ⟨v, h', n', hR, E3, u3, hlow, hd3, hn3, ho⟩ => ⟨v, h', n', hR, E3, ?_, fun m hm => (hlow m hm).trans (hι m), hd3, hn3, ho⟩
  exact (u.trans (UpdL.of u3 hlow (Nat.le_refl _))).upd hd
theorem CallIs.frz {P : Program} {f : FuncId} {args args2 : List V} {h h2 : Tr O} {n : Nat} {ms : List Nat} {A : List Prop} {v : V} {h1 : Tr O} {n1 : Nat}
    (hl : (Nat.beq args.length args2.length && Nat.blt args.length top) = true) (e : fzS ms (startSt args h n) = some (A, startSt args2 h2 n)) (hA : ∀ a ∈ A, a) (c : CallIs P f args2 h2 n v h1 n1) : CallIs P f args h n v h1 n1 :=
  CallsOne.is (c.one.frz hl e hA)
end Go.Eng
