/- The engine, part ZF: several pieces at once; three rows. No conditions: lemmas alone. -/
import Derived.Test.YtmjggdmekboefaaGreatDoorJointFour
import Derived.OpenShut
import Derived.Below
import Derived.ChangeSlices
import Derived.ChangeStays
set_option linter.unusedVariables false
set_option linter.unusedSimpArgs false
set_option linter.unusedSectionVars false
namespace Go.Eng
open Go Go.RowKit
section
variable {P : Program} {S : Ctr} {cf : CallF} {F N : Nat} {w0 : World}
end
def Env.three (E : Env) (a b c : Option Nat) : Env := ⟨fun j => match j with | 0 => a.bind E.ι | 1 => b.bind E.ι | 2 => c.bind E.ι | _ => none, E.β, E.φ⟩
end Go.Eng
namespace Go.Eng
open Go Go.RowKit Go.ChangeShapes Go.WideShapes
theorem args_stay {H : Type} {enc : TypeId × Value → H} {P : Program} {W W' : World} (hl : laidOutB P = true) (hm : mapsRowed P = true) (hz : ((List.range P.types.size).all fun t => match P.underlying t with | some (.slice e) => decide (0 < P.cellsOf e) | _ => true) = true)
    (hb : Below W.heap.size W W') {sp : Nat → Bool} : ∀ {ts : List TypeId} {vs : List Value} {ds : List (DataW H)} {ps : List MemPlace}, (∀ t ∈ ts, t < P.types.size) → DataW.TrodAll enc P W 0 (fun _ => true) true ts vs ds ps → (∀ p ∈ ps, sp p.block = true) → DataW.TrodAll enc P W' 0 sp true ts vs ds ps
  | [], [], [], _, _, h, _ => h
  | t :: ts, _ :: _, _ :: _, _, hT, ⟨p, q, ⟨n, h1⟩, h2, e⟩, hs => by
    refine ⟨p, q, ⟨n, ?_⟩, args_stay hl hm hz hb (fun t ht => hT t (List.mem_cons_of_mem _ ht)) h2 (fun x hx => hs x (by rw [e]; exact List.mem_append_right _ hx)), e⟩
    have hz' : ∀ {t e : TypeId}, t < P.types.size → P.underlying t = some (.slice e) → 0 < P.cellsOf e := by
      intro t e hl ht
      have := List.all_eq_true.1 hz t (List.mem_range.2 hl)
      rw [ht] at this
      simpa using this
    refine DataW.trod_stays (T := (· < P.types.size)) (kids_rows hl hm) hz' (fun h => by cases h) (hT t (List.mem_cons_self ..)) h1 (fun x hx => ?_) (fun x hx => hs x (by rw [e]; exact List.mem_append_left _ hx))
    exact hb.same (DataW.trod_lt n _ _ _ h1 x hx)
theorem vnil {E : Env} : vrels E [] [] := rfl
theorem vcons {E : Env} {x : V} {y : Value} {xs : List V} {ys : List Value} (h : vrel E x y) (t : vrels E xs ys) : vrels E (x :: xs) (y :: ys) := ⟨y, ys, h, t, rfl⟩
theorem vagg {E : Env} {xs : List V} {ys : List Value} (t : vrels E xs ys) : vrel E (.agg xs) (.agg ys.toArray) := ⟨ys, t, rfl⟩
theorem vint {E : Env} {k : IntKind} {n : Int} : vrel E (.int k n) (.int k n) := rfl
theorem int_in {H : Type} {enc : TypeId × Value → H} {P : Program} {W : World} {t : TypeId} {k : IntKind} {n : Nat} {v : Value} {y : DataW H × List MemPlace} (ht : P.underlying t = some (.int k)) (h : DataW.trod enc P W 0 (fun _ => true) true n t [v] = some y) : ∃ i, v = .int k i := by
  obtain ⟨i, h1, _⟩ := DataW.trod_int ht h
  exact ⟨i, by simpa using h1⟩
end Go.Eng
